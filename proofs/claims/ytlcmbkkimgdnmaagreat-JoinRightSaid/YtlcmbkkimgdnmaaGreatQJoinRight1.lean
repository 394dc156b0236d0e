/- What the law JoinRight needs, and no more: merged out of texts of this session by a program of it (wip/tools/prune.py). -/
import Derived.Test.YtlcmbkkimgdnmaaGreatQJoinRight0
set_option linter.unusedVariables false
set_option linter.unusedSimpArgs false
namespace Go.Proofs.YtlcmbkkimgdnmaaGreat.Pv
open Go
section
variable {P : Program}{tab : bR}{c : Ctx}{env : aI}{H : ah}
def Ctx.part (c : Ctx) (w : World) (φ : Nat → Phys) (HS HR : ah) (M : Nat) (hlow : ∀ b off,(c.So b off ∨ Own φ HR b off) → b < w.heap.size) : Ctx :=
  { w0 := w,So := fun b off => c.So b off ∨ Own φ HR b off,O0 := Own φ HS,k := M,φ0 := φ,nt := c.nt,low := hlow }
structure Part (H HS HR : ah) : Prop where
  l : ∀ n o,look HS n = some o → look H n = some o
  r : ∀ n o,look HR n = some o → look H n = some o
  lr : ∀ n o o',look HS n = some o → look HR n = some o' → False
  all : ∀ n o,look H n = some o → look HS n = some o ∨ look HR n = some o
theorem Rep.lessNames {φ φ2 : Nat → Phys}{nx nx2 : Nat}{w : World}{S : Nat → Nat → Prop}{p : Nat → Bool} (hp : ∀ n,n < nx → p n = true → φ2 n = φ n ∧ n < nx2) {x : PV}{v : Value}
    (h : Rep φ nx w S x v) (hx : has p x = true) : Rep φ2 nx2 w S x v := by
  have e : Pv.ren (fun n => n) x = x := by
    have r1 : ∀ y,Pv.ren1 (fun n => n) y = y := by intro y; cases y <;> rfl
    have r1f : Pv.ren1 (fun n => n) = id := by funext y; exact r1 y
    have r2 : ∀ y,Pv.ren2 (fun n => n) y = y := by
      intro y; cases y <;> simp [Pv.ren2,r1f,r1]
    have r2f : Pv.ren2 (fun n => n) = id := by funext y; exact r2 y
    cases x <;> simp [Pv.ren,r2f,r2]
  have := h.ren (τ := fun n => n) (k := nx2) (φ2 := φ2) hp hx
  rwa [e] at this
theorem SatO.lessNames {φ φ2 : Nat → Phys}{nx nx2 : Nat}{w : World}{S : Nat → Nat → Prop}{p : Nat → Bool} (hp : ∀ n,n < nx → p n = true → φ2 n = φ n ∧ n < nx2) {n : Nat}{o : Obj}
    (he : φ2 n = φ n) (h : SatO φ nx w S n o) (ho : hasO p o = true) : SatO φ2 nx2 w S n o := by
  have r1f : ren1 (fun n => n) = id := by funext y; cases y <;> rfl
  have r2f : ren2 (fun n => n) = id := by funext y; cases y <;> simp [ren2,r1f] <;> rfl
  have e : renO (fun n => n) o = o := by cases o <;> simp [renO,r2f]
  have := h.ren (τ := fun n => n) (k := nx2) (φ2 := φ2) (m := n) hp (fun _ _ => Iff.rfl) he ho
  rwa [e] at this
theorem StΦ.part {N M : Nat}{φ : Nat → Phys}{tmps : Array Value}{w : World} (hs : StΦ c N env H φ tmps w) {eS : aI}{HS HR : ah} (hp : Part H HS HR) (hM : M ≤ N)
    (he : ∀ k x,look eS k = some x → look env k = some x ∧ has (fun n => decide (n < M)) x = true) (hH : ∀ n o,look HS n = some o → n < M ∧ hasO (fun n => decide (n < M)) o = true) :
    ∃ hlow,StΦ (c.part w φ HS HR M hlow) M eS HS φ tmps w ∧ ∀ b off,SS c.So φ H b off ↔ SS (c.part w φ HS HR M hlow).So φ HS b off := by
  have hlow : ∀ b off,(c.So b off ∨ Own φ HR b off) → b < w.heap.size := by
    rintro b off (h|⟨n,o,m1,m2,m3,m4⟩)
    · exact Nat.lt_of_lt_of_le (c.low _ _ h) hs.ext.size
    · rw [← m3]; exact (hs.ok.obj n o (hp.r n o m1)).2.lt m2
  refine ⟨hlow, ?_⟩
  have hSS : ∀ b off,SS c.So φ H b off ↔ SS (c.part w φ HS HR M hlow).So φ HS b off := by
    intro b off
    constructor
    · rintro (h|⟨n,o,m1,m2⟩)
      · exact .inl (.inl h)
      · rcases hp.all n o m1 with h|h
        · exact .inr ⟨n,o,h,m2⟩
        · exact .inl (.inr ⟨n,o,h,m2⟩)
    · rintro ((h|⟨n,o,m1,m2⟩)|⟨n,o,m1,m2⟩)
      · exact .inl h
      · exact .inr ⟨n,o,hp.r n o m1,m2⟩
      · exact .inr ⟨n,o,hp.l n o m1,m2⟩
  have hSe : SS c.So φ H = SS (c.part w φ HS HR M hlow).So φ HS := by funext b off; exact propext (hSS b off)
  refine ⟨⟨⟨fun n o hn => ?_,fun n m o1 o2 h1 h2 => hs.ok.dis n m o1 o2 (hp.l _ _ h1) (hp.l _ _ h2),fun n o hn hnil off => ?_⟩,fun k x hk => ?_,Ext.refl _ _,⟨Nat.le_refl _,fun _ _ => rfl⟩,hs.size⟩,hSS⟩
  · obtain ⟨a,b⟩ := hs.ok.obj n o (hp.l n o hn)
    obtain ⟨d,e⟩ := hH n o hn
    rw [← hSe]
    exact ⟨d,b.lessNames (fun n _ hn => ⟨rfl,by simpa using hn⟩) rfl e⟩
  · rintro (h|⟨m,o2,m1,m2,m3,m4⟩)
    · exact hs.ok.out n o (hp.l n o hn) hnil off h
    · refine hs.ok.dis m n o2 o (hp.r m o2 m1) (hp.l n o hn) (fun e => ?_) m2 hnil m3
      subst e; exact hp.lr m o o2 hn m1
  · obtain ⟨a,b⟩ := he k x hk
    obtain ⟨v,v1,v2⟩ := hs.env k x a
    rw [← hSe]
    exact ⟨v,v1,v2.lessNames (fun n _ hn => ⟨rfl,by simpa using hn⟩) b⟩
theorem StΦ.whole {N M M' : Nat}{φ φ' : Nat → Phys}{tmps : Array Value}{w w' : World} (hs : StΦ c N env H φ tmps w) {eS : aI}{HS HR HS' : ah} (hp : Part H HS HR) (hM : M ≤ M') (hM' : M' ≤ N) {hlow}
    (h : StΦ (c.part w φ HS HR M hlow) M' eS HS' φ' tmps w') {env' : aI} (he : ∀ k x,look env' k = some x → look env k = some x ∧ has (fun n => decide (n < M) || decide (M' ≤ n)) x = true)
    (hR : ∀ n o,look HR n = some o → (n < M ∨ M' ≤ n) ∧ hasO (fun n => decide (n < M) || decide (M' ≤ n)) o = true) (hname : ∀ n o o',look HS' n = some o → look HR n = some o' → False)
    (hk : c.k ≤ M) {pv : PV}{v : Value} (hr : Rep φ' M' w' (SS (c.part w φ HS HR M hlow).So φ' HS') pv v) (hpv : has (fun _ => true) pv = true) (hHS' : ∀ n o,look HS' n = some o → hasO (fun _ => true) o = true) :
    ∃ φ2,StΦ c N env' (HS' ++ HR) φ2 tmps w' ∧ Rep φ2 N w' (SS c.So φ2 (HS' ++ HR)) pv v := by
  let φ2 : Nat → Phys := fun n => if n < M' then φ' n else φ n
  have hkeep : ∀ n,n < M → φ' n = φ n := h.keep.2
  have hφ2a : ∀ n,n < M' → φ2 n = φ' n := fun n hn => by simp only [φ2]; rw [if_pos hn]
  have hφ2b : ∀ n,(n < M ∨ M' ≤ n) → φ2 n = φ n := by
    intro n hn
    simp only [φ2]
    split
    · rcases hn with h|h
      · exact hkeep n h
      · omega
    · rfl
  have hext : Ext w w' (Own φ HS) (Own φ' HS') := h.ext
  have hOwn : ∀ b off,Own φ2 (HS' ++ HR) b off ↔ (Own φ' HS' b off ∨ Own φ HR b off) := by
    intro b off
    constructor
    · rintro ⟨n,o,m1,m2,m3,m4⟩
      rw [cB] at m1
      cases hq : look HS' n with
      | some o1 =>
        rw [hq] at m1; simp at m1; subst m1
        have := (h.ok.obj n o1 hq).1
        rw [hφ2a n this] at m2 m3 m4
        exact .inl ⟨n,o1,hq,m2,m3,m4⟩
      | none =>
        rw [hq] at m1; simp at m1
        rw [hφ2b n (hR n o m1).1] at m2 m3 m4
        exact .inr ⟨n,o,m1,m2,m3,m4⟩
    · rintro (⟨n,o,m1,m2,m3,m4⟩|⟨n,o,m1,m2,m3,m4⟩)
      · have := (h.ok.obj n o m1).1
        exact ⟨n,o,by rw [cB,m1]; rfl,by rw [hφ2a n this]; exact m2,by rw [hφ2a n this]; exact m3,by rw [hφ2a n this]; exact m4⟩
      · have hnone : look HS' n = none := by
          cases hq : look HS' n with
          | none => rfl
          | some o1 => exact (hname n o1 o hq m1).elim
        have hf := hφ2b n (hR n o m1).1
        exact ⟨n,o,by rw [cB,hnone]; simpa using m1,by rw [hf]; exact m2,by rw [hf]; exact m3,by rw [hf]; exact m4⟩
  have hSS : ∀ b off,SS (c.part w φ HS HR M hlow).So φ' HS' b off ↔ SS c.So φ2 (HS' ++ HR) b off := by
    intro b off
    constructor
    · rintro ((h|h)|h)
      · exact .inl h
      · exact .inr ((hOwn b off).2 (.inr h))
      · exact .inr ((hOwn b off).2 (.inl h))
    · rintro (h|h)
      · exact .inl (.inl h)
      · rcases (hOwn b off).1 h with h|h
        · exact .inr h
        · exact .inl (.inr h)
  have hSe : SS (c.part w φ HS HR M hlow).So φ' HS' = SS c.So φ2 (HS' ++ HR) := by funext b off; exact propext (hSS b off)
  have hOS : ∀ b off,Own φ HS b off → Own φ H b off := by rintro b off ⟨n,o,m1,m2⟩; exact ⟨n,o,hp.l n o m1,m2⟩
  have hE : Ext w w' (Own φ H) (Own φ2 (HS' ++ HR)) := by
    refine ⟨hext.os,hext.tape,hext.output,hext.size,fun b hb hO => hext.blk b hb fun off ho => hO off (hOS b off ho),fun b off hb hO => hext.cell b off hb fun ho => hO (hOS b off ho), ?_⟩
    intro b off hb hO
    rcases (hOwn b off).1 hO with h|⟨n,o,m1,m2⟩
    · exact hOS b off (hext.own b off hb h)
    · exact ⟨n,o,hp.r n o m1,m2⟩
  have hmono : Mono w (SS c.So φ H) w' (SS c.So φ2 (HS' ++ HR)) := hE.mono
  have hless : ∀ n,n < N → (decide (n < M) || decide (M' ≤ n)) = true → φ2 n = φ n ∧ n < N := fun n hn hd => ⟨hφ2b n (by simpa using hd),hn⟩
  have hnew : ∀ n,n < M' → (fun _ : Nat => true) n = true → φ2 n = φ' n ∧ n < N := fun n hn _ => ⟨hφ2a n hn,by omega⟩
  refine ⟨φ2,⟨⟨fun n o hn => ?_,fun n m o1 o2 h1 h2 hne n1 n2 => ?_,fun n o hn hnil off hso => ?_⟩,fun k x hk' => ?_, ?_,⟨Nat.le_trans hk (by omega),fun n hn => ?_⟩,hs.size⟩, ?_⟩
  · rw [cB] at hn
    cases hq : look HS' n with
    | some o1 =>
      rw [hq] at hn; simp at hn; subst hn
      obtain ⟨a,b⟩ := h.ok.obj n o1 hq
      rw [hSe] at b
      exact ⟨by omega,b.lessNames hnew (hφ2a n a) (hHS' n o1 hq)⟩
    | none =>
      rw [hq] at hn; simp at hn
      obtain ⟨a,b⟩ := hs.ok.obj n o (hp.r n o hn)
      obtain ⟨d,e⟩ := hR n o hn
      refine ⟨a, ?_⟩
      have b2 := b.step (φ' := φ) (nx' := N) (w' := w') (S' := SS c.So φ2 (HS' ++ HR)) (fun _ _ => rfl) (Nat.le_refl _) hmono a fun hf => by
        refine hext.blk _ (b.lt hf) fun off ho => ?_
        obtain ⟨m,o2,m1,m2,m3,m4⟩ := ho
        refine hs.ok.dis m n o2 o (hp.l m o2 m1) (hp.r n o hn) (fun e => ?_) m2 hf m3
        subst e; exact hp.lr m o2 o m1 hn
      exact b2.lessNames hless (hφ2b n d) e
  · rw [cB] at h1 h2
    cases hq1 : look HS' n with
    | some oo1 =>
      have a1 := (h.ok.obj n oo1 hq1).1
      cases hq2 : look HS' m with
      | some oo2 =>
        have a2 := (h.ok.obj m oo2 hq2).1
        rw [hφ2a n a1] at n1 ⊢; rw [hφ2a m a2] at n2 ⊢
        exact h.ok.dis n m oo1 oo2 hq1 hq2 hne n1 n2
      | none =>
        rw [hq2] at h2; simp at h2
        rw [hφ2a n a1] at n1 ⊢
        have hf := hφ2b m (hR m o2 h2).1
        rw [hf] at n2 ⊢
        intro e
        exact h.ok.out n oo1 hq1 n1 (lim (φ m) o2) (.inr ⟨m,o2,h2,n2,e.symm,Nat.le_refl _⟩)
    | none =>
      rw [hq1] at h1; simp at h1
      have hf1 := hφ2b n (hR n o1 h1).1
      rw [hf1] at n1 ⊢
      cases hq2 : look HS' m with
      | some oo2 =>
        have a2 := (h.ok.obj m oo2 hq2).1
        rw [hφ2a m a2] at n2 ⊢
        intro e
        exact h.ok.out m oo2 hq2 n2 (lim (φ n) o1) (.inr ⟨n,o1,h1,n1,e,Nat.le_refl _⟩)
      | none =>
        rw [hq2] at h2; simp at h2
        have hf2 := hφ2b m (hR m o2 h2).1
        rw [hf2] at n2 ⊢
        exact hs.ok.dis n m o1 o2 (hp.r _ _ h1) (hp.r _ _ h2) hne n1 n2
  · rw [cB] at hn
    cases hq : look HS' n with
    | some o1 =>
      have a := (h.ok.obj n o1 hq).1
      rw [hφ2a n a] at hnil hso
      exact h.ok.out n o1 hq hnil off (.inl hso)
    | none =>
      rw [hq] at hn; simp at hn
      have hf := hφ2b n (hR n o hn).1
      rw [hf] at hnil hso
      exact hs.ok.out n o (hp.r n o hn) hnil off hso
  · obtain ⟨a,b⟩ := he k x hk'
    obtain ⟨u,u1,u2⟩ := hs.env k x a
    exact ⟨u,u1,(u2.step (φ' := φ) (nx' := N) (fun _ _ => rfl) (Nat.le_refl _) hmono).lessNames hless b⟩
  · have e := hs.ext.trans hE
    exact e
  · rw [hφ2b n (.inl (by omega))]; exact hs.keep.2 n hn
  · rw [hSe] at hr
    exact hr.lessNames hnew hpv
end
structure Cert where
  o : Oper
  pv : Option PV
  eS : aI
  rd : ah
  hS : ah
  hT : ah
  M : Nat
  M' : Nat
  bef : List Nat
def Cert.touches (c : Cert) (n : Nat) : Bool := (look c.hS n).isSome || (look c.hT n).isSome
def jP (c : Cert) (f : Nat → Option PV) : Nat → Option PV := fun k => if c.o.dst = some k then c.pv else f k
def iW (c : Cert) (g : Nat → Option Obj) : Nat → Option Obj := fun n => if c.touches n then look c.hT n else g n
def fold {α β : Type} (up : Cert → (Nat → Option β) → (Nat → Option β)) (X : Nat → Bool) : List Cert → Nat → (Nat → Option β) → (Nat → Option β)
  | [],_,f => f
  | c :: t,i,f => fold (α := α) up X t (i + 1) (if X i then up c f else f)
section
variable {β : Type}
structure Local (up : Cert → (Nat → Option β) → (Nat → Option β)) (wr : Cert → Nat → Bool) (val : Cert → Nat → Option β) : Prop where
  yes : ∀ c f k,wr c k = true → up c f k = val c k
  no : ∀ c f k,wr c k = false → up c f k = f k
theorem fk {up : Cert → (Nat → Option β) → (Nat → Option β)}{wr : Cert → Nat → Bool}{val : Cert → Nat → Option β} (hl : Local up wr val) {X Y : Nat → Bool}{k : Nat} :
    ∀ (cs : List Cert) (i : Nat) (f g : Nat → Option β),f k = g k → (∀ j c,cs[j]? = some c → wr c k = true → X (i + j) = Y (i + j)) → fold (α := Unit) up X cs i f k = fold (α := Unit) up Y cs i g k
  | [],i,f,g,h,_ => h
  | c :: t,i,f,g,h,ha => by
    simp only [fold]
    refine fk hl t (i + 1) _ _ ?_ fun j c' hj hw => by
      have := ha (j + 1) c' (by simpa using hj) hw
      rw [Nat.add_assoc,Nat.add_comm 1 j]; exact this
    cases hw : wr c k with
    | true =>
      have e := ha 0 c rfl hw
      simp only [Nat.add_zero] at e
      rw [e]
      split
      · rw [hl.yes c f k hw,hl.yes c g k hw]
      · exact h
    | false => split <;> split <;> simp [hl.no _ _ _ hw,h]
theorem mn {up : Cert → (Nat → Option β) → (Nat → Option β)}{wr : Cert → Nat → Bool}{val : Cert → Nat → Option β} (hl : Local up wr val) {X : Nat → Bool}{k : Nat} :
    ∀ (cs : List Cert) (i : Nat) (f : Nat → Option β) (j : Nat) (c : Cert),cs[j]? = some c → X (i + j) = true → wr c k = true → (∀ q c',cs[q]? = some c' → j < q → wr c' k = true → X (i + q) = false) →
      fold (α := Unit) up X cs i f k = val c k
  | [],i,f,j,c,h,_,_,_ => by simp at h
  | c0 :: t,i,f,0,c,h,hx,hw,hn => by
    simp at h; subst h
    simp only [Nat.add_zero] at hx
    simp only [fold,hx,if_true]
    have : fold (α := Unit) up X t (i + 1) (up c0 f) k = fold (α := Unit) up (fun _ => false) t (i + 1) (up c0 f) k := fk hl t (i + 1) _ _ rfl fun q c' hq hw' => by
      have := hn (q + 1) c' (by simpa using hq) (by omega) hw'
      rw [Nat.add_assoc,Nat.add_comm 1 q]; exact this
    rw [this]
    have e : ∀ (t : List Cert) (i : Nat) (f : Nat → Option β),fold (α := Unit) up (fun _ => false) t i f = f := by
      intro t; induction t with
      | nil => intros; rfl
      | cons c t ih => intro i f; simp only [fold]; exact ih _ _
    rw [e,hl.yes _ _ _ hw]
  | c0 :: t,i,f,j + 1,c,h,hx,hw,hn => by
    simp only [fold]
    exact mn hl t (i + 1) _ j c (by simpa using h) (by rw [Nat.add_assoc,Nat.add_comm 1 j]; exact hx) hw fun q c' hq hjq hw' => by
      have := hn (q + 1) c' (by simpa using hq) (by omega) hw'
      rw [Nat.add_assoc,Nat.add_comm 1 q]; exact this
theorem ny {up : Cert → (Nat → Option β) → (Nat → Option β)} : ∀ (cs : List Cert) (i : Nat) (f : Nat → Option β),fold (α := Unit) up (fun _ => true) cs i f = cs.foldl (fun f c => up c f) f
  | [],_,_ => rfl
  | c :: t,i,f => by simp only [fold,if_true,List.foldl_cons]; exact ny t (i + 1) _
theorem ll {up : Cert → (Nat → Option β) → (Nat → Option β)} : ∀ (cs : List Cert) (i j : Nat) (f : Nat → Option β),fold (α := Unit) up (fun q => decide (q < i + j)) cs i f = (cs.take j).foldl (fun f c => up c f) f
  | [],_,_,_ => by simp [fold]
  | c :: t,i,0,f => by
    simp only [fold,Nat.add_zero,Nat.lt_irrefl,decide_false,Bool.false_eq_true,if_false,List.take_zero,List.foldl_nil]
    have e : ∀ (t : List Cert) (m : Nat) (f : Nat → Option β),i ≤ m → fold (α := Unit) up (fun q => decide (q < i)) t m f = f := by
      intro t; induction t with
      | nil => intros; rfl
      | cons c t ih => intro m f hm; simp only [fold]; rw [if_neg (by simpa using hm)]; exact ih _ _ (by omega)
    exact e t (i + 1) f (by omega)
  | c :: t,i,j + 1,f => by
    simp only [fold,List.take_succ_cons,List.foldl_cons]
    rw [if_pos (by simp)]
    have := ll (up := up) t (i + 1) j (up c f)
    rw [show i + 1 + j = i + (j + 1) by omega] at this
    exact this
end
def wrE (c : Cert) (k : Nat) : Bool := decide (c.o.dst = some k)
theorem localE : Local jP wrE (fun c _ => c.pv) := ⟨fun c f k h => by simp only [jP]; rw [if_pos (by simpa [wrE] using h)],fun c f k h => by simp only [jP]; rw [if_neg (by simpa [wrE] using h)]⟩
theorem localH : Local iW Cert.touches (fun c n => look c.hT n) := ⟨fun c f k h => by simp only [iW]; rw [if_pos h],fun c f k h => by simp only [iW]; rw [if_neg (by simp [h])]⟩
def listOf {α : Type} (n : Nat) (f : Nat → Option α) : List (Nat × α) := (List.range n).filterMap fun k => (f k).map fun x => (k,x)
theorem cF {α : Type} (f : Nat → Option α) : ∀ (n k : Nat),look (listOf n f) k = if k < n then f k else none := by
  intro n
  induction n with
  | zero => intro k; simp [listOf,look]
  | succ n ih =>
    intro k
    have e : listOf (n + 1) f = listOf n f ++ (match f n with|some x => [(n,x)]|none => []) := by
      simp only [listOf,List.range_succ,List.filterMap_append]
      congr 1
      cases hf : f n <;> simp [hf]
    rw [e,cB,ih k]
    by_cases h : k < n
    · rw [if_pos h,if_pos (by omega)]
      cases hf : f k with
      | some x => rfl
      | none =>
        cases hn : f n with
        | none => simp [look]
        | some x => simp [look,show ¬ (n = k) by omega]
    · rw [if_neg h]
      by_cases h2 : k = n
      · subst h2
        rw [if_pos (by omega)]
        cases hn : f k with
        | none => simp [look]
        | some x => simp [look]
      · rw [if_neg (by omega)]
        cases hn : f n with
        | none => simp [look]
        | some x => simp [look,show ¬ (n = k) from fun e => h2 e.symm]
def outP (M M' : Nat) (n : Nat) : Bool := decide (n < M) || decide (M' ≤ n)
def BF (P : Program) (tab : bR) (nt : Nat) (ops : Array Oper) (c : Cert) : Prop :=
  dstOk nt c.o.dst = true ∧ c.M ≤ c.M' ∧
  (let run := ∃ p,c.pv = some p ∧ has (fun _ => true) p = true ∧ stepOp P tab c.eS c.M (c.rd ++ c.hS) (fun pv' nx' H' => pv' = p ∧ nx' = c.M' ∧ ∀ n,look H' n = look (c.rd ++ c.hT) n) c.o.op
   match c.o.guard with
   | none => run
   | some (j,want) => ∃ d v,(ops[j]?).bind (·.dst) = some d ∧ look c.eS d = some (.f (.v v)) ∧ (vb v = some want → run) ∧ (vb v ≠ some want → c.pv = some aZ ∧ c.hS = [] ∧ c.hT = []))
def rS (a b : Cert) : Prop :=
  (∃ k,a.o.dst = some k ∧ (b.o.dst = some k ∨ (look b.eS k).isSome = true)) ∨
  (∃ n,a.touches n = true ∧ (b.touches n = true ∨ (look b.rd n).isSome = true))
def rv (a b : Cert) : Prop :=
  (∀ x,b.pv = some x → has (outP a.M a.M') x = true) ∧ (∀ n o,look b.hT n = some o → outP a.M a.M' n = true ∧ hasO (outP a.M a.M') o = true)
structure Plan (P : Program) (tab : bR) (nt k0 nx0 N : Nat) (ops : Array Oper) (env0 : aI) (H0 : ah) (cs : List Cert) : Prop where
  len : cs.length = ops.size
  op : ∀ (j : Nat) c,cs[j]? = some c → ops[j]? = some c.o
  ok : ∀ (j : Nat) c,cs[j]? = some c → BF P tab nt ops c
  names : ∀ (j : Nat) c,cs[j]? = some c → nx0 ≤ c.M ∧ c.M' ≤ N
  k : k0 ≤ nx0
  nx : nx0 ≤ N
  envB : ∀ q x,look env0 q = some x → has (fun n => decide (n < nx0)) x = true
  heapB : ∀ n o,look H0 n = some o → n < nx0 ∧ hasO (fun n => decide (n < nx0)) o = true
  readE : ∀ (j : Nat) c,cs[j]? = some c → ∀ q x,look c.eS q = some x → ((cs.take j).foldl (fun f c => jP c f) (look env0)) q = some x ∧ has (fun n => decide (n < c.M)) x = true ∧ q < nt
  readH : ∀ (j : Nat) c,cs[j]? = some c → ∀ n o,look (c.rd ++ c.hS) n = some o → ((cs.take j).foldl (fun f c => iW c f) (look H0)) n = some o ∧ n < c.M ∧ hasO (fun n => decide (n < c.M)) o = true
  fresh : ∀ (j : Nat) c,cs[j]? = some c → ∀ n o,look c.hT n = some o → (look c.hS n).isSome = true ∨ (c.M ≤ n ∧ n < c.M')
  apart : ∀ (j : Nat) c,cs[j]? = some c → ∀ n o,look c.rd n = some o → c.touches n = false
  okT : ∀ (j : Nat) c,cs[j]? = some c → ∀ n o,look (c.rd ++ c.hT) n = some o → hasO (fun _ => true) o = true ∧ n < N
  back : ∀ (j : Nat) c,cs[j]? = some c → ∀ e ∈ c.o.after,Region.binds .any e = true → e.on < j
  edge : ∀ (j : Nat) c,cs[j]? = some c → ∀ i ∈ c.bef,∃ e ∈ c.o.after,Region.binds .any e = true ∧ (i = e.on ∨ ∃ c',cs[e.on]? = some c' ∧ i ∈ c'.bef)
  order : ∀ (i j : Nat) a b,cs[i]? = some a → cs[j]? = some b → i ≠ j → rS a b → (i < j ∧ i ∈ b.bef) ∨ (j < i ∧ j ∈ a.bef)
  mention : ∀ (i j : Nat) a b,cs[i]? = some a → cs[j]? = some b → i ≠ j → ¬ rv a b → i ∈ b.bef
def cnt (X : Nat → Bool) : Nat → Nat
  | 0 => 0
  | m + 1 => cnt X m + (if X m then 0 else 1)
theorem ln {X : Nat → Bool} : ∀ {m : Nat},cnt X m = 0 → ∀ i,i < m → X i = true
  | 0,_,i,h => by omega
  | m + 1,h,i,hi => by
    simp only [cnt] at h
    by_cases e : i = m
    · subst e
      cases hx : X i with
      | true => rfl
      | false => simp [hx] at h
    · have h0 : cnt X m = 0 := by omega
      exact ln h0 i (by omega)
theorem tG {X X' : Nat → Bool}{j : Nat} (hj : X j = false) (h : ∀ i,X' i = if i = j then true else X i) : ∀ {m : Nat},cnt X' m + (if j < m then 1 else 0) = cnt X m
  | 0 => by simp [cnt]
  | m + 1 => by
    have ih := tG hj h (m := m)
    simp only [cnt]
    by_cases e : m = j
    · subst e
      have hx' : X' m = true := by rw [h]; simp
      rw [hx',hj]
      simp at ih ⊢
      omega
    · have hx' : X' m = X m := by rw [h]; simp [e]
      rw [hx']
      have e2 : (j < m + 1) ↔ (j < m) := by omega
      simp only [e2]
      omega
theorem fold_source {β : Type}{up : Cert → (Nat → Option β) → (Nat → Option β)}{wr : Cert → Nat → Bool}{val : Cert → Nat → Option β} (hl : Local up wr val) {X : Nat → Bool}{k : Nat}{x : β} :
    ∀ (cs : List Cert) (i : Nat) (f : Nat → Option β),fold (α := Unit) up X cs i f k = some x → f k = some x ∨ ∃ j c,cs[j]? = some c ∧ X (i + j) = true ∧ wr c k = true ∧ val c k = some x
  | [],i,f,h => .inl h
  | c :: t,i,f,h => by
    simp only [fold] at h
    rcases fold_source hl t (i + 1) _ h with h1|⟨j,c',a1,a2,a3,a4⟩
    · split at h1
      · rename_i hx
        cases hw : wr c k with
        | true => rw [hl.yes c f k hw] at h1; exact .inr ⟨0,c,rfl,hx,hw,h1⟩
        | false => rw [hl.no c f k hw] at h1; exact .inl h1
      · exact .inl h1
    · exact .inr ⟨j + 1,c',by simpa using a1,by rw [show i + (j + 1) = i + 1 + j by omega]; exact a2,a3,a4⟩
section
variable {P : Program}{tab : bR}{c : Ctx}{nx : Nat}{env : aI}{H : ah}
theorem StΦ.subEnv {φ : Nat → Phys}{tmps : Array Value}{w : World} (h : StΦ c nx env H φ tmps w) {env1 : aI} (he : ∀ k x,look env1 k = some x → look env k = some x) : StΦ c nx env1 H φ tmps w :=
  ⟨h.ok,fun k x hk => h.env k x (he k x hk),h.ext,h.keep,h.size⟩
theorem StΦ.raise {φ : Nat → Phys}{tmps : Array Value}{w : World} (h : StΦ c nx env H φ tmps w) {N : Nat} (hN : nx ≤ N) : StΦ c N env H φ tmps w := by
  refine h.next (fun _ _ => rfl) hN ?_ (Ext.refl _ _)
  exact ⟨fun n o hn => by obtain ⟨a,b⟩ := h.ok.obj n o hn; exact ⟨by omega,b.step (fun _ _ => rfl) hN (Mono.refl _ _) a fun _ => rfl⟩,h.ok.dis,h.ok.out⟩
theorem vn {φ : Nat → Phys}{H1 H2 : ah} (h : ∀ n,look H1 n = look H2 n) : Own φ H1 = Own φ H2 := by
  funext b off
  simp only [Own,h]
abbrev foldE (X : Nat → Bool) (cs : List Cert) (env0 : aI) : Nat → Option PV := fold (α := Unit) jP X cs 0 (look env0)
abbrev foldH (X : Nat → Bool) (cs : List Cert) (H0 : ah) : Nat → Option Obj := fold (α := Unit) iW X cs 0 (look H0)
theorem Plan.step (ht : TabOk P tab) {nx0 N : Nat}{ops : Array Oper}{env0 : aI}{H0 : ah}{cs : List Cert} (pl : Plan P tab c.nt c.k nx0 N ops env0 H0 cs) {Q : Exit → Act → World → Prop}
    {X X' : Nat → Bool}{φ : Nat → Phys}{tmps : Array Value}{w : World} (hs : StΦ c N (listOf c.nt (foldE X cs env0)) (listOf N (foldH X cs H0)) φ tmps w)
    (hX : ∀ (j : Nat) c',cs[j]? = some c' → X j = true → ∀ i ∈ c'.bef,X i = true) {j : Nat}{cj : Cert} (hj : cs[j]? = some cj) (hXj : X j = false) (hbef : ∀ i ∈ cj.bef,X i = true)
    (hX' : ∀ i,X' i = if i = j then true else X i) {K : Act → World → Prop}
    (hK : ∀ φ tmps w,StΦ c N (listOf c.nt (foldE X' cs env0)) (listOf N (foldH X' cs H0)) φ tmps w → K (act tmps) w) : wpOp P ops Q j K (act tmps) w := by
  obtain ⟨hdst,hMM,hrun⟩ := pl.ok j cj hj
  obtain ⟨hM0,hM'⟩ := pl.names j cj hj
  have hother : ∀ (i : Nat) ci,cs[i]? = some ci → i ≠ j → (rS ci cj ∨ rS cj ci) → X i = decide (i < j) := by
    intro i ci hi hne hm
    have key : (i < j ∧ i ∈ cj.bef) ∨ (j < i ∧ j ∈ ci.bef) := by
      rcases hm with hm|hm
      · exact pl.order i j ci cj hi hj hne hm
      · rcases pl.order j i cj ci hj hi (fun e => hne e.symm) hm with h|h
        · exact .inr h
        · exact .inl h
    rcases key with ⟨h1,h2⟩|⟨h1,h2⟩
    · rw [hbef i h2]; simp [h1]
    · have : X i = false := by
        cases hx : X i with
        | false => rfl
        | true => have := hX i ci hi hx j h2; rw [hXj] at this; cases this
      rw [this]; simp; omega
  have hfoldE : ∀ k,(∀ (i : Nat) ci,cs[i]? = some ci → wrE ci k = true → X i = decide (i < j)) → foldE X cs env0 k = ((cs.take j).foldl (fun f c => jP c f) (look env0)) k := by
    intro k h
    have := ll (up := jP) cs 0 j (look env0)
    rw [← this]
    exact fk localE cs 0 _ _ rfl fun q cq hq hw => by simpa using h q cq hq hw
  have hfoldH : ∀ k,(∀ (i : Nat) ci,cs[i]? = some ci → ci.touches k = true → X i = decide (i < j)) → foldH X cs H0 k = ((cs.take j).foldl (fun f c => iW c f) (look H0)) k := by
    intro k h
    have := ll (up := iW) cs 0 j (look H0)
    rw [← this]
    exact fk localH cs 0 _ _ rfl fun q cq hq hw => by simpa using h q cq hq hw
  have heS : ∀ k x,look cj.eS k = some x → look (listOf c.nt (foldE X cs env0)) k = some x ∧ has (fun n => decide (n < cj.M)) x = true := by
    intro k x hk
    obtain ⟨a1,a2,a3⟩ := pl.readE j cj hj k x hk
    refine ⟨?_,a2⟩
    rw [cF,if_pos a3,hfoldE k fun i ci hi hw => ?_]
    · exact a1
    · by_cases e : i = j
      · subst e; rw [hXj]; simp
      · exact hother i ci hi e (.inl (.inl ⟨k,by simpa [wrE] using hw,.inr (by rw [hk]; rfl)⟩))
  have hHS : ∀ n o,look (cj.rd ++ cj.hS) n = some o → look (listOf N (foldH X cs H0)) n = some o ∧ n < cj.M ∧ hasO (fun n => decide (n < cj.M)) o = true := by
    intro n o hn
    obtain ⟨a1,a2,a3⟩ := pl.readH j cj hj n o hn
    refine ⟨?_,a2,a3⟩
    rw [cF,if_pos (by omega),hfoldH n fun i ci hi hw => ?_]
    · exact a1
    · by_cases e : i = j
      · subst e; rw [hXj]; simp
      · refine hother i ci hi e (.inl (.inr ⟨n,hw, ?_⟩))
        rw [cB] at hn
        cases hq : look cj.rd n with
        | some o1 => exact .inr rfl
        | none =>
          rw [hq] at hn; simp at hn
          exact .inl (by simp [Cert.touches,hn])
  have hquietE : ∀ k x,foldE X cs env0 k = some x → has (outP cj.M cj.M') x = true := by
    intro k x hk
    rcases fold_source localE cs 0 _ hk with h|⟨i,ci,a1,a2,a3,a4⟩
    · have hlt := pl.envB k x h
      have mono : ∀ {p q : Nat → Bool},(∀ n,p n = true → q n = true) → ∀ y,has p y = true → has q y = true := by
        intro p q hpq
        have h1 : ∀ y,has1 p y = true → has1 q y = true := by intro y; cases y <;> simp [has1] <;> exact hpq _
        have h2 : ∀ y,has2 p y = true → has2 q y = true := by
          intro y; cases y <;> simp only [has2] <;> first|exact h1 _|(simp only [List.all_eq_true]; exact fun h z hz => h1 z (h z hz))
        intro y; cases y <;> simp only [has] <;> first|exact h2 _|(simp only [List.all_eq_true]; exact fun h z hz => h2 z (h z hz))
      exact mono (fun n hn => by simp [outP] at hn ⊢; omega) x hlt
    · simp only [Nat.zero_add] at a2
      by_cases hsil : rv cj ci
      · exact hsil.1 x a4
      · by_cases e : i = j
        · subst e; rw [hXj] at a2; cases a2
        · have := hX i ci a1 a2 j (pl.mention j i cj ci hj a1 (fun h => e h.symm) hsil)
          rw [hXj] at this; cases this
  have hquietH : ∀ n o,foldH X cs H0 n = some o → outP cj.M cj.M' n = true ∧ hasO (outP cj.M cj.M') o = true := by
    intro n o hn
    rcases fold_source localH cs 0 _ hn with h|⟨i,ci,a1,a2,a3,a4⟩
    · obtain ⟨h1,h2⟩ := pl.heapB n o h
      refine ⟨by simp [outP]; omega, ?_⟩
      cases o with
      | buf => rfl
      | mp => rfl
      | obj xs =>
        simp only [hasO,List.all_eq_true] at h2 ⊢
        intro z hz
        have hz2 := h2 z hz
        have h1' : ∀ y,has1 (fun n => decide (n < nx0)) y = true → has1 (outP cj.M cj.M') y = true := by
          intro y; cases y <;> simp [has1,outP] <;> omega
        cases z <;> simp only [has2] at hz2 ⊢ <;> first|exact h1' _ hz2|(simp only [List.all_eq_true] at hz2 ⊢; exact fun y hy => h1' y (hz2 y hy))
    · simp only [Nat.zero_add] at a2
      by_cases hsil : rv cj ci
      · exact hsil.2 n o a4
      · by_cases e : i = j
        · subst e; rw [hXj] at a2; cases a2
        · have := hX i ci a1 a2 j (pl.mention j i cj ci hj a1 (fun h => e h.symm) hsil)
          rw [hXj] at this; cases this
  have hE' : ∀ k,wrE cj k = false → foldE X' cs env0 k = foldE X cs env0 k := fun k hk => fk localE cs 0 _ _ rfl fun q cq hq hw => by
    rw [Nat.zero_add,hX' q]
    by_cases e : q = j
    · subst e; rw [hj] at hq; cases hq; rw [hk] at hw; cases hw
    · rw [if_neg e]
  have hH' : ∀ k,cj.touches k = false → foldH X' cs H0 k = foldH X cs H0 k := fun k hk => fk localH cs 0 _ _ rfl fun q cq hq hw => by
    rw [Nat.zero_add,hX' q]
    by_cases e : q = j
    · subst e; rw [hj] at hq; cases hq; rw [hk] at hw; cases hw
    · rw [if_neg e]
  have hlater : ∀ (q : Nat) cq,cs[q]? = some cq → j < q → (rS cq cj ∨ rS cj cq) → X' (0 + q) = false := by
    intro q cq hq hlt hm
    rw [Nat.zero_add,hX' q,if_neg (by omega),hother q cq hq (by omega) hm]
    simp; omega
  have hEj : ∀ k,wrE cj k = true → foldE X' cs env0 k = cj.pv := fun k hk => mn localE cs 0 _ j cj hj (by rw [Nat.zero_add,hX' j]; simp) hk fun q cq hq hlt hw =>
    hlater q cq hq hlt (.inr (.inl ⟨k,by simpa [wrE] using hk,.inl (by simpa [wrE] using hw)⟩))
  have hHj : ∀ k,cj.touches k = true → foldH X' cs H0 k = look cj.hT k := fun k hk => mn localH cs 0 _ j cj hj (by rw [Nat.zero_add,hX' j]; simp) hk fun q cq hq hlt hw =>
    hlater q cq hq hlt (.inr (.inr ⟨k,hk,.inl hw⟩))
  have hskip : cj.pv = some aZ → cj.hS = [] → cj.hT = [] → K ((act tmps).put cj.o.dst undef) w := by
    intro h1 h2 h3
    have e : (act tmps).put cj.o.dst undef = act ((act tmps).put cj.o.dst undef).tmps := by cases cj.o.dst <;> rfl
    rw [e]
    have htouch : ∀ k,cj.touches k = false := fun k => by simp [Cert.touches,h2,h3,look]
    have hs1 : StΦ c N (listOf c.nt (foldE X' cs env0)) (listOf N (foldH X cs H0)) φ ((act tmps).put cj.o.dst undef).tmps w := by
      cases hd : cj.o.dst with
      | none =>
        refine hs.subEnv fun k x hk => ?_
        rw [cF] at hk ⊢
        split at hk
        · rename_i hlt
          rw [if_pos hlt]
          rw [hE' k (by simp [wrE,hd])] at hk
          exact hk
        · cases hk
      | some d =>
        have hdn : d < c.nt := by have := hdst; rw [hd] at this; simpa [dstOk] using this
        refine (hs.put (d := d) (.f (.v undef)) hdn).subEnv fun k x hk => ?_
        rw [cF] at hk
        split at hk
        · rename_i hlt
          by_cases ek : d = k
          · subst ek
            rw [hEj d (by simp [wrE,hd]),h1] at hk; cases hk
            exact bQ _ _ _
          · rw [bv _ _ ek,cF,if_pos hlt]
            rw [hE' k (by simp [wrE,hd,ek])] at hk
            exact hk
        · cases hk
    refine hK φ _ w (hs1.sub fun n o hn => ?_)
    rw [cF] at hn ⊢
    split at hn
    · rename_i hlt
      rw [if_pos hlt]
      rw [hH' n (htouch n)] at hn
      exact hn
    · cases hn
  have hexec : (∃ p,cj.pv = some p ∧ has (fun _ => true) p = true ∧ stepOp P tab cj.eS cj.M (cj.rd ++ cj.hS) (fun pv' nx' H' => pv' = p ∧ nx' = cj.M' ∧ ∀ n,look H' n = look (cj.rd ++ cj.hT) n) cj.o.op) →
      cj.o.wp P (act tmps) w K Q := by
    rintro ⟨p,hp,hpp,hst⟩
    let HS : ah := cj.rd ++ cj.hS
    let HR : ah := listOf N (fun n => if (look HS n).isSome then none else foldH X cs H0 n)
    have hpart : Part (listOf N (foldH X cs H0)) HS HR := by
      refine ⟨fun n o hn => (hHS n o hn).1,fun n o hn => ?_,fun n o o' hn hn' => ?_,fun n o hn => ?_⟩
      · simp only [HR,cF] at hn ⊢
        split at hn
        · rename_i hlt
          rw [if_pos hlt]
          split at hn
          · cases hn
          · exact hn
        · cases hn
      · simp only [HR,cF] at hn'
        split at hn'
        · rw [hn] at hn'; simp at hn'
        · cases hn'
      · cases hq : look HS n with
        | some o1 =>
          have := (hHS n o1 hq).1
          rw [hn] at this; cases this; exact .inl rfl
        | none =>
          right
          simp only [HR,cF,hq] at hn ⊢
          split at hn
          · rename_i hlt; rw [if_pos hlt]; simpa using hn
          · cases hn
    obtain ⟨hlow,hsS,_⟩ := hs.part hpart (show cj.M ≤ N by omega) heS (fun n o hn => (hHS n o hn).2)
    refine tC ht hst φ tmps w hsS K Q fun pv nx' H' φ' v w' hk hs' hr => ?_
    obtain ⟨rfl,rfl,hlk⟩ := hk
    have hOwn : Own φ' H' = Own φ' (cj.rd ++ cj.hT) := vn hlk
    have hs2 : StΦ (c.part w φ HS HR cj.M hlow) cj.M' cj.eS (cj.rd ++ cj.hT) φ' tmps w' := hs'.sub fun m o hm => by rw [hlk]; exact hm
    have hr2 : Rep φ' cj.M' w' (SS (c.part w φ HS HR cj.M hlow).So φ' (cj.rd ++ cj.hT)) pv v := by
      have e : SS (c.part w φ HS HR cj.M hlow).So φ' H' = SS (c.part w φ HS HR cj.M hlow).So φ' (cj.rd ++ cj.hT) := by funext b off; simp only [SS,hOwn]
      rw [← e]; exact hr
    have hHR : ∀ n o,look HR n = some o → (look HS n).isSome = false ∧ foldH X cs H0 n = some o ∧ n < N := by
      intro n o hn
      simp only [HR,cF] at hn
      split at hn
      · rename_i hlt
        cases hq : look HS n with
        | some o1 => rw [hq] at hn; simp at hn
        | none => rw [hq] at hn; exact ⟨rfl,by simpa using hn,hlt⟩
      · cases hn
    obtain ⟨φ2,g1,g2⟩ := hs.whole hpart hMM hM' hs2 (env' := listOf c.nt (fun k => if wrE cj k then none else foldE X cs env0 k))
      (fun k x hk => by
        rw [cF] at hk ⊢
        split at hk
        · rename_i hlt
          rw [if_pos hlt]
          split at hk
          · cases hk
          · exact ⟨hk,hquietE k x hk⟩
        · cases hk)
      (fun n o hn => by
        obtain ⟨a1,a2,a3⟩ := hHR n o hn
        obtain ⟨b1,b2⟩ := hquietH n o a2
        exact ⟨by simpa [outP] using b1,b2⟩)
      (fun n o o' hn hn' => by
        obtain ⟨a1,a2,a3⟩ := hHR n o' hn'
        obtain ⟨b1,b2⟩ := hquietH n o' a2
        rw [cB] at hn
        cases hq : look cj.rd n with
        | some o1 => simp only [HS] at a1; rw [cB,hq] at a1; simp at a1
        | none =>
          rw [hq] at hn; simp at hn
          rcases pl.fresh j cj hj n o hn with h|h
          · simp only [HS] at a1; rw [cB,hq] at a1; simp at a1; rw [a1] at h; cases h
          · simp [outP] at b1; omega)
      (by have := pl.k; omega) hr2 hpp (fun n o hn => (pl.okT j cj hj n o hn).1)
    have e : (act tmps).put cj.o.dst v = act ((act tmps).put cj.o.dst v).tmps := by cases cj.o.dst <;> rfl
    rw [e]
    have g3 := g1.putE g2 hdst
    refine hK φ2 _ w' ((g3.subEnv fun k x hk => ?_).sub fun n o hn => ?_)
    · rw [cF] at hk
      split at hk
      · rename_i hlt
        cases hw : wrE cj k with
        | true =>
          rw [hEj k hw,hp] at hk
          have hd : cj.o.dst = some k := by simpa [wrE] using hw
          rw [hd]
          simp only [Pv.putE]
          rw [bQ]; exact hk
        | false =>
          rw [hE' k hw] at hk
          have hne : ∀ d,cj.o.dst = some d → d ≠ k := fun d hd e => by simp [wrE,hd,e] at hw
          have hbase : look (listOf c.nt (fun k => if wrE cj k then none else foldE X cs env0 k)) k = some x := by
            rw [cF,if_pos hlt,hw]; exact hk
          cases hd : cj.o.dst with
          | none => exact hbase
          | some d => simp only [Pv.putE]; rw [bv _ _ (hne d hd)]; exact hbase
      · cases hk
    · rw [cF] at hn
      split at hn
      · rename_i hlt
        rw [cB]
        cases htc : cj.touches n with
        | true =>
          rw [hHj n htc] at hn
          have hrd : look cj.rd n = none := by
            cases hq : look cj.rd n with
            | none => rfl
            | some o1 => have := pl.apart j cj hj n o1 hq; rw [htc] at this; cases this
          rw [cB,hrd,hn]; rfl
        | false =>
          rw [hH' n htc] at hn
          have hT : look cj.hT n = none := by
            cases hq : look cj.hT n with
            | none => rfl
            | some o1 => simp [Cert.touches,hq] at htc
          have hS : look cj.hS n = none := by
            cases hq : look cj.hS n with
            | none => rfl
            | some o1 => simp [Cert.touches,hq] at htc
          rw [cB,hT]
          cases hq : look cj.rd n with
          | some o1 =>
            have := (hHS n o1 (by rw [cB,hq]; rfl)).1
            rw [cF,if_pos hlt,hn] at this
            cases this; rfl
          | none =>
            simp only [Option.or_none,HR,cF,if_pos hlt,HS]
            rw [cB,hq,hS]
            simpa using hn
      · cases hn
  unfold wpOp
  rw [pl.op j cj hj]
  simp only
  split at hrun
  · rename_i hg
    rw [if_pos (by simp [Region.wanted,hg])]
    exact .inl (hexec hrun)
  · rename_i q want hg
    obtain ⟨d,b,r1,r2,r3,r4⟩ := hrun
    obtain ⟨v,v1,v2⟩ := hs.env d _ (heS d _ r2).1
    have hv := v2.v_inv
    subst hv
    have hy := nJ r1 v1
    by_cases hb : vb v = some want
    · rw [if_pos (by simp [Region.wanted,hg,hy,hb])]
      exact .inl (hexec (r3 hb))
    · rw [if_neg (by simp [Region.wanted,hg,hy,hb])]
      obtain ⟨h1,h2,h3⟩ := r4 hb
      exact hskip h1 h2 h3
theorem kc (l : Array Bool) (j i : Nat) (hj : j < l.size) : (l.setIfInBounds j true).getD i false = if i = j then true else l.getD i false := by
  by_cases h : i = j
  · subst h; simp [hj]
  · rw [if_neg h]
    simp only [Array.getD_eq_getD_getElem?,Array.getElem?_setIfInBounds]
    rw [if_neg (fun e => h e.symm)]
theorem mj {l : Array Bool}{j : Nat} (hj : j < l.size) : l.getD j true = l.getD j false := by simp [hj]
theorem Plan.run (ht : TabOk P tab) {nx0 N : Nat}{ops : Array Oper}{env0 : aI}{H0 : ah}{cs : List Cert} (pl : Plan P tab c.nt c.k nx0 N ops env0 H0 cs) {Q : Exit → Act → World → Prop}
    (hQ : ∀ φ tmps w,StΦ c N (listOf c.nt (foldE (fun _ => true) cs env0)) (listOf N (foldH (fun _ => true) cs H0)) φ tmps w → Q .normal (act tmps) w) :
    ∀ (fuel : Nat) (listed : Array Bool) (φ : Nat → Phys) (tmps : Array Value) (w : World),listed.size = ops.size → cnt (fun i => listed.getD i false) ops.size = fuel →
      (∀ (j : Nat) c',cs[j]? = some c' → listed.getD j false = true → ∀ i ∈ c'.bef,listed.getD i false = true) →
      StΦ c N (listOf c.nt (foldE (fun i => listed.getD i false) cs env0)) (listOf N (foldH (fun i => listed.getD i false) cs H0)) φ tmps w → wpAny P .any ops Q fuel listed (act tmps) w := by
  have hdone : ∀ (listed : Array Bool) (φ : Nat → Phys) (tmps : Array Value) (w : World),cnt (fun i => listed.getD i false) ops.size = 0 →
      StΦ c N (listOf c.nt (foldE (fun i => listed.getD i false) cs env0)) (listOf N (foldH (fun i => listed.getD i false) cs H0)) φ tmps w → Q .normal (act tmps) w := by
    intro listed φ tmps w hc hs
    refine hQ φ tmps w ((hs.subEnv fun k x hk => ?_).sub fun n o hn => ?_)
    · rw [cF] at hk ⊢
      split at hk
      · rename_i hlt
        rw [if_pos hlt]
        rw [← hk]
        exact fk localE cs 0 _ _ rfl fun q cq hq hw => by
          rw [Nat.zero_add]
          exact ln hc q (by rw [← pl.len]; exact (List.getElem?_eq_some_iff.1 hq).1)
      · cases hk
    · rw [cF] at hn ⊢
      split at hn
      · rename_i hlt
        rw [if_pos hlt]
        rw [← hn]
        exact fk localH cs 0 _ _ rfl fun q cq hq hw => by
          rw [Nat.zero_add]
          exact ln hc q (by rw [← pl.len]; exact (List.getElem?_eq_some_iff.1 hq).1)
      · cases hn
  have hready : ∀ listed : Array Bool,listed.size = ops.size → Region.ready .any ops listed = [] → cnt (fun i => listed.getD i false) ops.size = 0 := by
    intro listed hsz hr
    have hall : ∀ i,i < ops.size → listed.getD i false = true := by
      intro i
      induction i using Nat.strongRecOn with
      | _ i ih =>
        intro hi
        cases hx : listed.getD i false with
        | true => rfl
        | false =>
          exfalso
          have hic : i < cs.length := by rw [pl.len]; exact hi
          have hmem : i ∈ Region.ready .any ops listed := by
            rw [mem_ready]
            refine ⟨by rw [mj (by omega)]; exact hx,cs[i].o,pl.op i cs[i] (by simp [hic]),fun e he hb => ?_⟩
            have hlt := pl.back i cs[i] (by simp [hic]) e he hb
            exact ih e.on hlt (by omega)
          rw [hr] at hmem; cases hmem
    have : ∀ m,m ≤ ops.size → cnt (fun i => listed.getD i false) m = 0 := by
      intro m
      induction m with
      | zero => intro _; rfl
      | succ m ih =>
        intro hm
        have h1 := hall m (by omega)
        simp only [cnt,ih (by omega),h1,if_true]
    exact this _ (Nat.le_refl _)
  intro fuel
  induction fuel with
  | zero =>
    intro listed φ tmps w hsz hc hcl hs
    refine ⟨?_,hdone listed φ tmps w hc hs⟩
    cases hr : Region.ready .any ops listed with
    | nil => rfl
    | cons i t =>
      exfalso
      have hm : i ∈ Region.ready .any ops listed := by rw [hr]; simp
      rw [mem_ready] at hm
      obtain ⟨h1,o,h2,_⟩ := hm
      have hlt : i < ops.size := (Array.getElem?_eq_some_iff.1 h2).1
      rw [mj (by omega)] at h1
      have h5 : listed.getD i false = true := ln hc i hlt
      rw [h1] at h5; cases h5
  | succ fuel ih =>
    intro listed φ tmps w hsz hc hcl hs
    refine ⟨fun hr => hdone listed φ tmps w (hready listed hsz hr) hs,fun j hj => ?_⟩
    rw [mem_ready] at hj
    obtain ⟨h1,o,h2,h3⟩ := hj
    have hlt : j < ops.size := (Array.getElem?_eq_some_iff.1 h2).1
    have hjc : j < cs.length := by rw [pl.len]; exact hlt
    rw [mj (by omega)] at h1
    have hcj : cs[j]? = some cs[j] := by simp [hjc]
    have hoj : cs[j].o = o := by have := pl.op j cs[j] hcj; rw [h2] at this; cases this; rfl
    have hbef : ∀ i ∈ cs[j].bef,listed.getD i false = true := by
      intro i hi
      obtain ⟨e,he,hb,h|⟨c',hc',hi'⟩⟩ := pl.edge j cs[j] hcj i hi
      · subst h; exact h3 e (by rw [← hoj]; exact he) hb
      · exact hcl e.on c' hc' (h3 e (by rw [← hoj]; exact he) hb) i hi'
    refine pl.step ht (X := fun i => listed.getD i false) (X' := fun i => (listed.setIfInBounds j true).getD i false) hs hcl hcj h1 hbef (fun i => kc listed j i (by omega)) fun φ tmps w hs' => ?_
    refine ih _ φ tmps w (by simpa using hsz) ?_ ?_ hs'
    · have := tG (X := fun i => listed.getD i false) (X' := fun i => (listed.setIfInBounds j true).getD i false) (j := j) h1 (fun i => kc listed j i (by omega)) (m := ops.size)
      rw [if_pos hlt] at this
      omega
    · intro q cq hq hx i hi
      have hx2 : (if q = j then true else listed.getD q false) = true := by rw [← kc listed j q (by omega)]; exact hx
      have : (if i = j then true else listed.getD i false) = true := by
        by_cases e : i = j
        · rw [if_pos e]
        · rw [if_neg e]
          by_cases eq : q = j
          · subst eq; rw [hcj] at hq; cases hq; exact hbef i hi
          · rw [if_neg eq] at hx2; exact hcl q cq hq hx2 i hi
      rw [kc listed j i (by omega)]; exact this
theorem BE (ht : TabOk P tab) (hm : P.follows .mixedOrders = true) {id nx0 N : Nat}{ops : Array Oper}{env0 envF : aI}{H0 HF : ah}{cs : List Cert}{Q : cH} (pl : Plan P tab c.nt c.k nx0 N ops env0 H0 cs)
    (hE : ∀ k x,look envF k = some x → (cs.foldl (fun f c => jP c f) (look env0)) k = some x ∧ k < c.nt) (hH : ∀ n o,look HF n = some o → (cs.foldl (fun f c => iW c f) (look H0)) n = some o ∧ n < N)
    (hQ : Q .normal envF N HF) : W P c (.region id ops true) env0 nx0 H0 Q := by
  intro φ tmps w hs
  refine wp_region_any hm ?_
  have hs1 : StΦ c N env0 H0 φ tmps w.drew := (hs.same (w' := w.drew) rfl rfl rfl (Nat.le_refl _) (fun _ _ => rfl)).raise pl.nx
  have hfalse : ∀ i,(Array.replicate ops.size false).getD i false = false := by
    intro i
    simp only [Array.getD_eq_getD_getElem?,Array.getElem?_replicate]
    split <;> rfl
  have hnoneE : foldE (fun i => (Array.replicate ops.size false).getD i false) cs env0 = look env0 := by
    funext k
    have : ∀ (t : List Cert) (i : Nat) (f : Nat → Option PV),fold (α := Unit) jP (fun i => (Array.replicate ops.size false).getD i false) t i f = f := by
      intro t; induction t with
      | nil => intros; rfl
      | cons c t ih => intro i f; rw [fold,hfalse i]; exact ih _ _
    rw [foldE,this]
  have hnoneH : foldH (fun i => (Array.replicate ops.size false).getD i false) cs H0 = look H0 := by
    funext k
    have : ∀ (t : List Cert) (i : Nat) (f : Nat → Option Obj),fold (α := Unit) iW (fun i => (Array.replicate ops.size false).getD i false) t i f = f := by
      intro t; induction t with
      | nil => intros; rfl
      | cons c t ih => intro i f; rw [fold,hfalse i]; exact ih _ _
    rw [foldH,this]
  have hcount : cnt (fun i => (Array.replicate ops.size false).getD i false) ops.size = ops.size := by
    have : ∀ m,cnt (fun i => (Array.replicate ops.size false).getD i false) m = m := by
      intro m; induction m with
      | zero => rfl
      | succ m ih =>
        have h1 := hfalse m
        simp only [cnt,ih,h1]
        rfl
    exact this _
  refine pl.run ht (fun φ tmps w hs => ?_) ops.size _ φ tmps w.drew (by simp) hcount (fun j c' _ hx => by rw [hfalse] at hx; cases hx) ?_
  · refine ⟨.normal,envF,N,HF,φ,rfl,rfl,(hs.subEnv fun k x hk => ?_).sub fun n o hn => ?_,hQ⟩
    · obtain ⟨a,b⟩ := hE k x hk
      rw [cF,if_pos b,foldE,ny]; exact a
    · obtain ⟨a,b⟩ := hH n o hn
      rw [cF,if_pos b,foldH,ny]; exact a
  · rw [hnoneE,hnoneH]
    refine (hs1.subEnv fun k x hk => ?_).sub fun n o hn => ?_
    · rw [cF] at hk; split at hk
      · exact hk
      · cases hk
    · rw [cF] at hn; split at hn
      · exact hn
      · cases hn
end
section
variable {P : Program}{tab : bR}{c : Ctx}{nx nt : Nat}{env : aI}{H H' : ah}{K : PV → Nat → ah → Prop}{C : aI → Nat → ah → Prop}{ops : Array Oper}{rest : List Oper}
theorem an {a b : Code}{Q : cH} (h : W P c a env nx H (thenP (fun env nx H => W P c b env nx H Q) Q)) : W P c (.seq a b) env nx H Q := ym h
theorem av {x : Operand}{t e : Code}{Q : cH}{b : Bool} (hb : ev env x = some (.f (.v (.bool b)))) (h1 : b = true → W P c t env nx H Q) (h2 : b = false → W P c e env nx H Q) : W P c (.cond x t e) env nx H Q :=
  fun φ tmps w hs => wp_cond_split (t := b) (bP hs hb).v_inv (fun hb => h1 hb φ tmps w hs) (fun hb => h2 hb φ tmps w hs)
theorem aP {id : Nat}{body : Code}{Q : cH} (h : W P c body env nx H (jk id Q)) : W P c (.block id body) env nx H Q := fun φ tmps w hs => by
    refine wp_block (Code.wp_mono (fun e a w hp => ?_) (h φ tmps w hs))
    obtain ⟨x,env',nx',H',φ',rfl,h2,h3,h4⟩ := hp
    cases x with
    | normal => exact ⟨.normal,env',nx',H',φ',rfl,h2,h3,h4⟩
    | ret => exact ⟨.ret,env',nx',H',φ',rfl,h2,h3,h4⟩
    | exit i =>
      show (if i = id then PostOf c Q .normal a w else PostOf c Q (.exit i) a w)
      simp only [jk] at h4
      by_cases hi : i = id
      · rw [if_pos hi] at h4 ⊢; exact ⟨.normal,env',nx',H',φ',rfl,h2,h3,h4⟩
      · rw [if_neg hi] at h4 ⊢; exact ⟨.exit i,env',nx',H',φ',rfl,h2,h3,h4⟩
theorem aw {Q : cH} (h : Q .normal env nx H) : W P c .skip env nx H Q := fun φ tmps w hs => wp_skip ⟨.normal,env,nx,H,φ,rfl,rfl,hs,h⟩
theorem cG {id : Nat}{Q : cH} (h : Q (.exit id) env nx H) : W P c (.exit id) env nx H Q := fun φ tmps w hs => wp_exit ⟨.exit id,env,nx,H,φ,rfl,rfl,hs,h⟩
theorem w_ret {Q : cH} (h : Q .ret env nx H) : W P c .ret env nx H Q := fun φ tmps w hs => wp_ret ⟨.ret,env,nx,H,φ,rfl,rfl,hs,h⟩
theorem q8 {α : Type}{a b : Code}{Q : cH} (I : α → Prop) (E : α → aI) (N : α → Nat) (G : α → ah)
    (h1 : W P c a env nx H (thenP (fun env' _ H' => ∃ y,I y ∧ Emb c.k (E y) (N y) (G y) env' H') Q)) (h2 : ∀ y,I y → W P c b (E y) (N y) (G y) Q) : W P c (.seq a b) env nx H Q :=
  ym (h1.mono fun x env nx H hx => by
    cases x with
    | normal => obtain ⟨y,hy,he⟩ := hx; exact (h2 y hy).emb he
    | exit i => exact hx
    | ret => exact hx)
theorem lO {α : Type}{body : Code}{Q : cH} (I : α → Prop) (E : α → aI) (N : α → Nat) (G : α → ah) (μ : α → Nat) (x0 : α) (hI : I x0) (h0 : Emb c.k (E x0) (N x0) (G x0) env H)
    (round : ∀ x,I x → W P c body (E x) (N x) (G x) (thenP (fun env' _ H' => ∃ y,I y ∧ μ y < μ x ∧ Emb c.k (E y) (N y) (G y) env' H') Q)) : W P c (.loop body) env nx H Q :=
  BD (α := { x // I x }) (fun x => E x.1) (fun x => N x.1) (fun x => G x.1) (fun x => μ x.1) ⟨x0,hI⟩ h0 fun x => (round x.1 x.2).mono fun e env nx H h => by
    cases e with
    | normal => obtain ⟨y,h1,h2,h3⟩ := h; exact ⟨⟨y,h1⟩,h2,h3⟩
    | exit i => exact h
    | ret => exact h
section
variable {F : aI → Nat → ah → Prop}{Q : cH}{i j : Nat}
theorem ak (h : F env nx H) : thenP F Q .normal env nx H := h
theorem aL (h : Q (.exit i) env nx H) : thenP F Q (.exit i) env nx H := h
theorem af (h : Q .ret env nx H) : thenP F Q .ret env nx H := h
theorem aG (h : Q .normal env nx H) : jk i Q .normal env nx H := h
theorem bq (h : Q .normal env nx H) : jk i Q (.exit i) env nx H := by simpa [jk] using h
theorem l9 (hn : j ≠ i) (h : Q (.exit j) env nx H) : jk i Q (.exit j) env nx H := by simpa [jk,hn] using h
theorem am (h : Q .ret env nx H) : jk i Q .ret env nx H := h
end
theorem vy (sz : Nat) (cl : Bool) : PV.le (.f (.v (.slice none 0 0))) (.f (.sl sz cl [])) := by
  intro φ nx w S v h
  have := h.v_inv; subst this
  exact .f (.slnil sz cl)
theorem dB {sz : Nat}{cl : Bool}{l : List FV} : PV.le (.f (.sl sz cl l)) (.f (.sl sz false l)) := by
  intro φ nx w S v h
  cases h with
  | f h => cases h with
    | slnil _ _ => exact .f (.slnil sz false)
    | slemp _ _ A => exact .f (.slemp sz false A)
    | sl _ _ l b off cap val h1 h2 h3 h4 h5 => exact .f (.sl sz false l b off cap val h1 (fun e => by cases e) h3 h4 h5)
def pj (tab : bR) (rs : List ResultVar) (k : Nat) (R : PV → Nat → ah → Prop) : cH := fun x env _ H' => x ≠ .exit 0 ∧ (x = .ret ∨ x = .normal) ∧ uH tab rs k R env H'
def Ret (r : PV) (k : Nat) (H : ah) : PV → Nat → ah → Prop := fun r' k' H' => r' = r ∧ k' = k ∧ H' = H
theorem bn (ht : TabOk P tab) {f : Nat}{fn : Func}{body : Code}{rs : List ResultVar}{args : List PV}{k n : Nat}{R : PV → Nat → ah → Prop} (hf : P.funcs[f]? = some fn) (hb : fn.body = some body) (hn : (fn.name == "runtime.NumGoroutine") = false)
    (hnt : fn.ntmps = n) (hrs : fn.results.toList = rs) (ha : args.length ≤ n)
    (h : ∀ c : Ctx,c.nt = n → c.k = k → W P c body (jY 0 args) k H (pj tab rs k R)) : T P f args k H R := by
  subst hnt; subst hrs
  exact Ae ht hf hb hn ha fun c h1 h2 => h c h1 h2
theorem tB {rs : List ResultVar}{k : Nat}{R : PV → Nat → ah → Prop} (h : uH tab rs k R env H) : pj tab rs k R .ret env nx H := ⟨by simp,.inl rfl,h⟩
theorem pV {rs : List ResultVar}{k : Nat}{R : PV → Nat → ah → Prop}{xs : List PV}{r : PV} (h : retL tab env H rs xs) (hp : j9 xs = r) (hr : has (fun _ => false) r = true) (hR : R r k []) : pj tab rs k R .ret env nx H := by
  refine tB ⟨xs,[],k,[],h,rfl,trivial,Nat.le_refl _, ?_, ?_⟩
  · rw [hp]; exact hr
  · have : ren (gA []) r = r := by
      have h1 : ∀ y,has1 (fun _ => false) y = true → ren1 (gA []) y = y := by intro y hy; cases y <;> simp [has1] at hy <;> rfl
      have h1l : ∀ l : List PV,l.all (has1 fun _ => false) = true → l.map (ren1 (gA [])) = l := by
        intro l hl
        induction l with
        | nil => rfl
        | cons x l ih => simp only [List.all_cons,Bool.and_eq_true] at hl; rw [List.map_cons,h1 x hl.1,ih hl.2]
      have h2 : ∀ y,has2 (fun _ => false) y = true → ren2 (gA []) y = y := by
        intro y hy
        cases y <;> simp only [has2,ren2] at hy ⊢ <;> first|rw [h1l _ hy]|exact h1 _ hy
      have h2l : ∀ l : List PV,l.all (has2 fun _ => false) = true → l.map (ren2 (gA [])) = l := by
        intro l hl
        induction l with
        | nil => rfl
        | cons x l ih => simp only [List.all_cons,Bool.and_eq_true] at hl; rw [List.map_cons,h2 x hl.1,ih hl.2]
      cases r <;> simp only [has,ren] at hr ⊢ <;> first|rw [h2l _ hr]|exact h2 _ hr
    rw [hp,this]; exact hR
theorem ret_tmp {t : Nat}{r : List ResultVar}{x : PV}{ys : List PV} (h : look env t = some x) (hr : retL tab env H r ys) : retL tab env H (.tmp t :: r) (x :: ys) := ⟨x,ys,h,rfl,hr⟩
theorem ret_nil : retL tab env H [] [] := rfl
theorem ret_cell {a t : Nat}{r : List ResultVar}{i : TI}{n off : Nat}{cs : List PV}{x : PV}{ys : List PV} (h1 : tab t = some i) (h2 : i.kd.agg = false → i.size = 1) (h3 : look env a = some (.ptr n off)) (h4 : look H n = some (.obj cs))
    (h5 : off + i.size ≤ cs.length) (hx : x = if i.kd.agg then mkAgg ((cs.drop off).take i.size) else (cs.drop off).headD (.f (.v undef))) (hr : retL tab env H r ys) : retL tab env H (.cell a t :: r) (x :: ys) :=
  ⟨i,n,off,cs,ys,h1,h2,h3,h4,h5,by rw [hx],hr⟩
theorem T.le {f : Nat}{args args' : List PV}{k : Nat}{R : PV → Nat → ah → Prop} (h : T P f args' k H R) (hl : args.length = args'.length) (ha : ∀ (i : Nat) x y,args[i]? = some x → args'[i]? = some y → PV.le x y) : T P f args k H R :=
  ⟨h.1,fun w φ So vals h1 h2 h3 h4 => h.2 w φ So vals h1 h2 (by omega) fun i a v hi hv => by
    have hlt : i < args.length := by rw [hl]; exact (List.getElem?_eq_some_iff.1 hi).1
    exact ha i args[i] a (by simp [hlt]) hi _ _ _ _ _ (h4 i args[i] v (by simp [hlt]) hv)⟩
theorem d7 {x : Operand}{pv : PV} (h : ev env x = some pv) (k : K pv nx H) : stepOp P tab env nx H K (.move x) := ⟨pv,h,k⟩
theorem w8 {x : Operand}{pv : PV} (h : ev env x = some pv) (k : K pv nx H) : stepOp P tab env nx H K (.assign x) := ⟨pv,h,k⟩
theorem bg {x a b : Operand}{t : Bool}{pv : PV} (h : ev env x = some (.f (.v (.bool t)))) (ht : t = true) (ha : ev env a = some pv) (k : K pv nx H) : stepOp P tab env nx H K (.pick x a b) :=
  ⟨t,h,fun _ => ⟨pv,ha,k⟩,fun e => (by rw [ht] at e; cases e)⟩
theorem bd {x a b : Operand}{t : Bool}{pv : PV} (h : ev env x = some (.f (.v (.bool t)))) (ht : t = false) (hb : ev env b = some pv) (k : K pv nx H) : stepOp P tab env nx H K (.pick x a b) :=
  ⟨t,h,fun e => (by rw [ht] at e; cases e),fun _ => ⟨pv,hb,k⟩⟩
theorem cg {e : Nat}{i : TI} (h : tab e = some i) (k : K (.ptr nx 0) (nx + 1) ((nx,.obj (i.zero.map fun v => .f (.v v))) :: H)) : stepOp P tab env nx H K (.alloc e) := ⟨i,h,k⟩
theorem cu {t : Nat}{x : Operand}{pv : PV} (h : ev env x = some pv) (hs : pv.storable = true) (k : K (.ptr nx 0) (nx + 1) ((nx,.obj pv.cells) :: H)) : stepOp P tab env nx H K (.box t x) := ⟨pv,h,hs,k⟩
theorem bj {t : Nat}{x : Operand}{i : TI}{n off : Nat}{cs : List PV} (h1 : tab t = some i) (h2 : i.kd.agg = true) (h3 : ev env x = some (.ptr n off)) (h4 : look H n = some (.obj cs)) (h5 : off + i.size ≤ cs.length)
    (k : K (mkAgg ((cs.drop off).take i.size)) nx H) : stepOp P tab env nx H K (.load t x) :=
  ⟨i,h1,fun e => (by rw [h2] at e; cases e),.inl ⟨n,off,cs,h3,h4,h5,by rw [if_pos h2]; exact k⟩⟩
theorem bp {t : Nat}{x : Operand}{i : TI}{n off : Nat}{cs : List PV}{y : PV} (h1 : tab t = some i) (h2 : i.kd.agg = false) (hs : i.size = 1) (h3 : ev env x = some (.ptr n off)) (h4 : look H n = some (.obj cs))
    (h5 : cs[off]? = some y) (k : K y nx H) : stepOp P tab env nx H K (.load t x) :=
  ⟨i,h1,fun _ => hs,.inl ⟨n,off,cs,h3,h4,by have := (List.getElem?_eq_some_iff.1 h5).1; omega,by
    rw [if_neg (by simp [h2])]
    have : (cs.drop off).headD (.f (.v undef)) = y := by rw [List.headD_eq_head?_getD,List.head?_drop,h5]; rfl
    rw [this]; exact k⟩⟩
theorem ud {t : Nat}{x : Operand}{i : TI}{y : FV} (h1 : tab t = some i) (h2 : i.kd.agg = false) (hs : i.size = 1) (h3 : ev env x = some (.f (.ro y))) (hy : y.cells = [y]) (k : K (.f y) nx H) : stepOp P tab env nx H K (.load t x) :=
  ⟨i,h1,fun _ => hs,.inr (.inl ⟨y,h3,by rw [hy,hs]; rfl,fun e => (by rw [h2] at e; cases e),fun _ => hy,k⟩)⟩
theorem gk {t : Nat}{x : Operand}{i : TI}{cs : List FV} (h1 : tab t = some i) (h2 : i.kd.agg = true) (h3 : ev env x = some (.f (.ro (.agg cs)))) (hl : cs.length = i.size) (k : K (.f (.agg cs)) nx H) : stepOp P tab env nx H K (.load t x) :=
  ⟨i,h1,fun e => (by rw [h2] at e; cases e),.inr (.inl ⟨.agg cs,h3,hl,fun _ => rfl,fun e => (by rw [h2] at e; cases e),k⟩)⟩
theorem ue {t : Nat}{x : Operand}{i : TI}{n j off sz : Nat}{wr : Bool}{l : List FV}{y z : FV} (h1 : tab t = some i) (h2 : i.kd.agg = false) (hs : i.size = 1) (h3 : ev env x = some (.ep n j off)) (h4 : look H n = some (.buf wr sz l)) (h5 : l[j]? = some y)
    (h6 : y.cells[off]? = some z) (k : K (.f z) nx H) : stepOp P tab env nx H K (.load t x) :=
  ⟨i,h1,fun _ => hs,.inr (.inr ⟨n,j,off,wr,sz,l,y,h3,h4,h5,by have := (List.getElem?_eq_some_iff.1 h6).1; omega,by
    rw [if_neg (by simp [h2])]
    have : (y.cells.drop off).headD (.v undef) = z := by rw [List.headD_eq_head?_getD,List.head?_drop,h6]; rfl
    rw [this]; exact k⟩)⟩
theorem uZ {t : Nat}{x : Operand}{i : TI}{n j off sz : Nat}{wr : Bool}{l : List FV}{y : FV} (h1 : tab t = some i) (h2 : i.kd.agg = true) (h3 : ev env x = some (.ep n j off)) (h4 : look H n = some (.buf wr sz l)) (h5 : l[j]? = some y)
    (h6 : off + i.size ≤ y.cells.length) (k : K (.f (.agg ((y.cells.drop off).take i.size))) nx H) : stepOp P tab env nx H K (.load t x) :=
  ⟨i,h1,fun e => (by rw [h2] at e; cases e),.inr (.inr ⟨n,j,off,wr,sz,l,y,h3,h4,h5,h6,by rw [if_pos h2]; exact k⟩)⟩
theorem aC {t : Nat}{x y : Operand}{i : TI}{pv : PV}{n off : Nat}{cs : List PV} (h1 : tab t = some i) (h2 : ev env y = some pv) (h3 : pv.storable = true) (h4 : pv.cells.length = i.size) (h5 : ev env x = some (.ptr n off)) (h6 : look H n = some (.obj cs))
    (h7 : off + i.size ≤ cs.length) (k : K (.f (.v undef)) nx (hput H n (.obj (splice cs off pv.cells)))) : stepOp P tab env nx H K (.store t x y) := ⟨i,pv,h1,h2,h3,h4,.inl ⟨n,off,cs,h5,h6,h7,k⟩⟩
theorem t9 {t : Nat}{x y : Operand}{i : TI}{pv : PV}{n j off sz : Nat}{l : List FV}{z : FV}{fs : List FV} (h1 : tab t = some i) (h2 : ev env y = some pv) (h3 : pv.storable = true) (h4 : pv.cells.length = i.size) (h5 : ev env x = some (.ep n j off))
    (h6 : look H n = some (.buf true sz l)) (h7 : l[j]? = some z) (h8 : off + i.size ≤ z.cells.length) (h9 : allF pv.cells = some fs) (h10 : (fs.all fun f => !f.isAgg) = true) (h11 : fs ≠ [])
    (k : K (.f (.v undef)) nx (hput H n (.buf true sz (l.set j (gj z off fs))))) : stepOp P tab env nx H K (.store t x y) := ⟨i,pv,h1,h2,h3,h4,.inr ⟨n,j,off,sz,l,z,fs,h5,h6,h7,h8,h9,h10,h11,k⟩⟩
section
variable {t u : Nat}{x y : Operand}{k : IntKind}{a b : Int}
theorem fz {op : BinOp}{p q : Value} (h1 : ev env x = some (.f (.v p))) (h2 : ev env y = some (.f (.v q))) (h : gV op ((tab t).elim .other (·.kd)) (fun r => K (.f (.v r)) nx H) p q) : stepOp P tab env nx H K (.binOp op t x y u) := .inl ⟨p,q,h1,h2,h⟩
theorem B6 (h1 : ev env x = some (.f (.v (.int k a)))) (h2 : ev env y = some (.f (.v (.int k b)))) (h : K (.f (.v (.int k (k.wrap (a + b))))) nx H) : stepOp P tab env nx H K (.binOp .add t x y u) := fz h1 h2 ⟨rfl,h⟩
theorem BU (h1 : ev env x = some (.f (.v (.int k a)))) (h2 : ev env y = some (.f (.v (.int k b)))) (h : K (.f (.v (.int k (k.wrap (a - b))))) nx H) : stepOp P tab env nx H K (.binOp .sub t x y u) := fz h1 h2 ⟨rfl,h⟩
theorem BW (h1 : ev env x = some (.f (.v (.int k a)))) (h2 : ev env y = some (.f (.v (.int k b)))) (hb : b ≠ 0) (h : K (.f (.v (.int k (k.wrap (a.tdiv b))))) nx H) : stepOp P tab env nx H K (.binOp .quo t x y u) := fz h1 h2 ⟨rfl,hb,h⟩
theorem qu (h1 : ev env x = some (.f (.v (.int k a)))) (h2 : ev env y = some (.f (.v (.int k b)))) (hb : b ≠ 0) (h : K (.f (.v (.int k (a.tmod b)))) nx H) : stepOp P tab env nx H K (.binOp .rem t x y u) := fz h1 h2 ⟨rfl,hb,h⟩
theorem qx (h1 : ev env x = some (.f (.v (.int k a)))) (h2 : ev env y = some (.f (.v (.int k b)))) (h : K (.f (.v (.int k (dx .and k a b)))) nx H) : stepOp P tab env nx H K (.binOp .and t x y u) := fz h1 h2 ⟨rfl,h⟩
theorem oI (h1 : ev env x = some (.f (.v (.int k a)))) (h2 : ev env y = some (.f (.v (.int k b)))) (h : K (.f (.v (.int k (dx .or k a b)))) nx H) : stepOp P tab env nx H K (.binOp .or t x y u) := fz h1 h2 ⟨rfl,h⟩
theorem nW {k' : IntKind} (h1 : ev env x = some (.f (.v (.int k a)))) (h2 : ev env y = some (.f (.v (.int k' b)))) (hb : 0 ≤ b) (h : K (.f (.v (.int k (k.wrap (a * 2 ^ min b.toNat k.bits))))) nx H) : stepOp P tab env nx H K (.binOp .shl t x y u) := fz h1 h2 ⟨hb,h⟩
theorem ub {k' : IntKind} (h1 : ev env x = some (.f (.v (.int k a)))) (h2 : ev env y = some (.f (.v (.int k' b)))) (hb : 0 ≤ b) (h : K (.f (.v (.int k (a.fdiv (2 ^ min b.toNat k.bits))))) nx H) : stepOp P tab env nx H K (.binOp .shr t x y u) := fz h1 h2 ⟨hb,h⟩
theorem bF (h1 : ev env x = some (.f (.v (.int k a)))) (h2 : ev env y = some (.f (.v (.int k b)))) (h : K (.f (.v (.bool (decide (a = b))))) nx H) : stepOp P tab env nx H K (.binOp .eql t x y u) := fz h1 h2 ⟨rfl,h⟩
theorem el (h1 : ev env x = some (.f (.v (.int k a)))) (h2 : ev env y = some (.f (.v (.int k b)))) (h : K (.f (.v (.bool (!decide (a = b))))) nx H) : stepOp P tab env nx H K (.binOp .neq t x y u) := fz h1 h2 ⟨rfl,h⟩
theorem cZ (h1 : ev env x = some (.f (.v (.int k a)))) (h2 : ev env y = some (.f (.v (.int k b)))) (h : K (.f (.v (.bool (decide (a < b))))) nx H) : stepOp P tab env nx H K (.binOp .lss t x y u) := fz h1 h2 ⟨rfl,h⟩
theorem x9 (h1 : ev env x = some (.f (.v (.int k a)))) (h2 : ev env y = some (.f (.v (.int k b)))) (h : K (.f (.v (.bool (decide (a ≤ b))))) nx H) : stepOp P tab env nx H K (.binOp .leq t x y u) := fz h1 h2 ⟨rfl,h⟩
theorem gM (h1 : ev env x = some (.f (.v (.int k a)))) (h2 : ev env y = some (.f (.v (.int k b)))) (h : K (.f (.v (.bool (decide (b < a))))) nx H) : stepOp P tab env nx H K (.binOp .gtr t x y u) := fz h1 h2 ⟨rfl,h⟩
theorem jy (h1 : ev env x = some (.f (.v (.int k a)))) (h2 : ev env y = some (.f (.v (.int k b)))) (h : K (.f (.v (.bool (decide (b ≤ a))))) nx H) : stepOp P tab env nx H K (.binOp .geq t x y u) := fz h1 h2 ⟨rfl,h⟩
theorem wrap_i64 {r : Int} (h : -9223372036854775808 ≤ r ∧ r ≤ 9223372036854775807) : IntKind.i64.wrap r = r := by
  have e1 : IntKind.i64.signed = true := rfl
  have e2 : IntKind.i64.bits = 64 := rfl
  simp only [IntKind.wrap,e1,e2]
  rw [show (2:Int) ^ 64 = 18446744073709551616 from rfl,show (2:Int) ^ (64 - 1) = 9223372036854775808 from rfl]
  simp only [Bool.true_and,decide_eq_true_eq]
  split <;> omega
theorem gm {r : Int} (h1 : ev env x = some (.f (.v (.int .i64 a)))) (h2 : ev env y = some (.f (.v (.int .i64 b)))) (hr : r = a + b) (hb : -9223372036854775808 ≤ a + b ∧ a + b ≤ 9223372036854775807) (h : K (.f (.v (.int .i64 r))) nx H) :
    stepOp P tab env nx H K (.binOp .add t x y u) := B6 h1 h2 (by rw [wrap_i64 hb,← hr]; exact h)
theorem jU {r : Int} (h1 : ev env x = some (.f (.v (.int .i64 a)))) (h2 : ev env y = some (.f (.v (.int .i64 b)))) (hr : r = a - b) (hb : -9223372036854775808 ≤ a - b ∧ a - b ≤ 9223372036854775807) (h : K (.f (.v (.int .i64 r))) nx H) :
    stepOp P tab env nx H K (.binOp .sub t x y u) := BU h1 h2 (by rw [wrap_i64 hb,← hr]; exact h)
theorem yX {p q : ByteArray} (h1 : ev env x = some (.f (.v (.string p)))) (h2 : ev env y = some (.f (.v (.string q)))) (h : K (.f (.v (.bool (p.toList == q.toList)))) nx H) : stepOp P tab env nx H K (.binOp .eql t x y u) := fz h1 h2 h
theorem yR {p q : ByteArray} (h1 : ev env x = some (.f (.v (.string p)))) (h2 : ev env y = some (.f (.v (.string q)))) (h : K (.f (.v (.bool (!(p.toList == q.toList))))) nx H) : stepOp P tab env nx H K (.binOp .neq t x y u) := fz h1 h2 h
theorem td {i : TI}{pv : PV}{e : Nat} (ht : tab t = some i) (hk : i.kd = .slice e) (h1 : ev env x = some pv) (hg : nilGuess H (.slice e) pv) (h : ∀ b,nilFit H (.slice e) pv b → K (.f (.v (.bool b))) nx H) : stepOp P tab env nx H K (.binOp .eql t x (.const (.slice none 0 0)) u) :=
  .inr (.inl ⟨i,pv,ht,h1,by rw [hk]; exact hg,.inr (.inl ⟨e,hk,rfl⟩),.inl ⟨rfl,by rw [hk]; exact h⟩⟩)
theorem s_ptrnil {i : TI}{pv : PV}{e : Nat} (ht : tab t = some i) (hk : i.kd = .ptr e) (h1 : ev env x = some pv) (hg : nilGuess H (.ptr e) pv) (h : K (.f (.v (.bool false))) nx H) : stepOp P tab env nx H K (.binOp .eql t x (.const (.pointer none)) u) :=
  .inr (.inl ⟨i,pv,ht,h1,by rw [hk]; exact hg,.inl ⟨e,hk,rfl⟩,.inl ⟨rfl,by
    rw [hk]; intro b hb
    have : b = false := by
      cases pv with
      | f z => cases z <;> simp only [nilGuess,nilFit] at hg hb <;> first|exact hb|exact hg.elim
      | _ => simp only [nilGuess,nilFit] at hg hb <;> first|exact hb|exact hg.elim
    rw [this]; exact h⟩⟩)
theorem s_ptrnot {i : TI}{pv : PV}{e : Nat} (ht : tab t = some i) (hk : i.kd = .ptr e) (h1 : ev env x = some pv) (hg : nilGuess H (.ptr e) pv) (h : K (.f (.v (.bool true))) nx H) : stepOp P tab env nx H K (.binOp .neq t x (.const (.pointer none)) u) :=
  .inr (.inl ⟨i,pv,ht,h1,by rw [hk]; exact hg,.inl ⟨e,hk,rfl⟩,.inr ⟨rfl,by
    rw [hk]; intro b hb
    have : b = false := by
      cases pv with
      | f z => cases z <;> simp only [nilGuess,nilFit] at hg hb <;> first|exact hb|exact hg.elim
      | _ => simp only [nilGuess,nilFit] at hg hb <;> first|exact hb|exact hg.elim
    rw [this]; exact h⟩⟩)
theorem nY {fs : List (Nat × Nat)}{cs ds : List FV}{r : Bool} (hq : SEq P t fs) (h1 : ev env x = some (.f (.agg cs))) (h2 : ev env y = some (.f (.agg ds))) (hl : cs.length = ds.length) (hf : (fs.all fun p => decide (p.1 < cs.length)) = true)
    (hr : oX tab cs ds fs = some r) (h : K (.f (.v (.bool r))) nx H) : stepOp P tab env nx H K (.binOp .eql t x y u) := .inr (.inr ⟨fs,cs,ds,r,hq,h1,h2,hl,hf,hr,.inl ⟨rfl,h⟩⟩)
theorem eO {p : Bool} (h1 : ev env x = some (.f (.v (.bool p)))) (h : K (.f (.v (.bool (!p)))) nx H) : stepOp P tab env nx H K (.unOp .not t x) := ⟨_,h1,h⟩
end
theorem hY {s t : Nat}{x : Operand}{is it : TI}{k k' k2 : IntKind}{a : Int} (h1 : tab s = some is) (h2 : tab t = some it) (h3 : it.kd = .int k) (h4 : is.kd = .int k2) (h5 : ev env x = some (.f (.v (.int k' a)))) (h : K (.f (.v (.int k (k.wrap a)))) nx H) :
    stepOp P tab env nx H K (.convert s t x) := .inl ⟨is,it,h1,h2,.inl ⟨k,k',a,h3,h5,⟨k2,h4⟩,h⟩⟩
theorem u6 {s t : Nat}{x : Operand}{is it : TI}{k k' k2 : IntKind}{a : Int} (h1 : tab s = some is) (h2 : tab t = some it) (h3 : it.kd = .int k) (h4 : is.kd = .int k2) (h5 : ev env x = some (.f (.v (.int k' a)))) (hw : k.wrap a = a) (h : K (.f (.v (.int k a))) nx H) :
    stepOp P tab env nx H K (.convert s t x) := hY h1 h2 h3 h4 h5 (by rw [hw]; exact h)
theorem Bd {s t e : Nat}{x : Operand}{is it ie : TI}{ns : List Int} (h1 : tab s = some is) (h2 : tab t = some it) (h3 : is.kd = .slice e) (h4 : tab e = some ie) (h5 : ie.kd = .int .u8) (h6 : it.kd = .str) (h7 : Holds env H x 1 (fW ns))
    (h : K (.f (.v (.string (lS ns)))) nx H) : stepOp P tab env nx H K (.convert s t x) := .inr ⟨is,it,h1,h2,.inl ⟨e,ie,ns,h3,h4,h5,h6,h7,h⟩⟩
theorem xB {x : Operand}{sz : Nat}{cl : Bool}{l : List FV} (h : ev env x = some (.f (.sl sz cl l))) : Holds env H x sz l := .inl ⟨cl,h⟩
theorem vC {x : Operand}{sz n lo : Nat}{hi : Option Nat}{wr : Bool}{m l : List FV} (h : ev env x = some (.ref n lo hi)) (h2 : look H n = some (.buf wr sz m)) (hl : l = view lo hi m) : Holds env H x sz l := .inr (.inr ⟨n,lo,hi,wr,m,h,h2,hl⟩)
theorem B3 {t e sz : Nat}{x : Operand}{i : TI}{l : List FV} (h1 : tab t = some i) (h2 : i.kd = .slice e) (h3 : Holds env H x sz l) (h : K (.f (.v (.int .i64 l.length))) nx H) :
    stepOp P tab env nx H K (.call { callee := .builtin .len,args := #[x],argTypes := #[t] }) := ⟨i,h1,.inl ⟨e,sz,l,h2,h3,h⟩⟩
theorem u4 {t : Nat}{x : Operand}{i : TI}{s : ByteArray} (h1 : tab t = some i) (h2 : i.kd = .str) (h3 : ev env x = some (.f (.v (.string s)))) (h : K (.f (.v (.int .i64 s.size))) nx H) :
    stepOp P tab env nx H K (.call { callee := .builtin .len,args := #[x],argTypes := #[t] }) := ⟨i,h1,.inr (.inl ⟨s,h2,h3,h⟩)⟩
theorem rJ {t u e n lo : Nat}{wr : Bool}{x y : Operand}{i ie : TI}{l xs : List FV} (h1 : tab t = some i) (h2 : i.kd = .slice e) (h3 : tab e = some ie) (h4 : ie.size ≠ 0 ∧ ie.bytes ≠ 0) (h5 : Src tab env H u y ie.size xs) (h6 : ev env x = some (.ref n lo none))
    (h7 : look H n = some (.buf wr ie.size l)) (h8 : (l.length + xs.length) * ie.bytes ≤ 140737488355328) (h : K (.ref nx 0 none) (nx + 1) ((nx,.buf wr ie.size (l.drop lo ++ xs)) :: drop H n)) :
    stepOp P tab env nx H K (.call { callee := .builtin .append,args := #[x,y],argTypes := #[t,u] }) := ⟨i,e,ie,xs,h1,h2,h3,h4.1,h4.2,h5,.inl ⟨n,lo,wr,l,h6,h7,h8,h⟩⟩
theorem AZ {u e sz : Nat}{iu : TI}{y : Operand}{xs : List FV} (h1 : tab u = some iu) (h2 : iu.kd = .slice e) (h : Holds env H y sz xs) : Src tab env H u y sz xs := ⟨iu,h1,.inl ⟨e,h2,h⟩⟩
theorem BZ {xs : Array Operand}{ts : Array Nat}{k : IntKind}{p m : Int}{qs : List PV}{ns : List Int} (h1 : evs env xs.toList = some (.f (.v (.int k p)) :: qs)) (h2 : je qs = some ns) (hm : m = ns.foldl max p) (h : K (.f (.v (.int k m))) nx H) :
    stepOp P tab env nx H K (.call { callee := .builtin .max,args := xs,argTypes := ts }) := by
  have : lY env H nx K .max xs.toList := ⟨k,p,qs,ns,h1,h2,.inl ⟨rfl,by rw [← hm]; exact h⟩⟩
  exact this
theorem x8 {xs : Array Operand}{ts : Array Nat}{k : IntKind}{p m : Int}{qs : List PV}{ns : List Int} (h1 : evs env xs.toList = some (.f (.v (.int k p)) :: qs)) (h2 : je qs = some ns) (hm : m = ns.foldl min p) (h : K (.f (.v (.int k m))) nx H) :
    stepOp P tab env nx H K (.call { callee := .builtin .min,args := xs,argTypes := ts }) := by
  have : lY env H nx K .min xs.toList := ⟨k,p,qs,ns,h1,h2,.inr ⟨rfl,by rw [← hm]; exact h⟩⟩
  exact this
theorem bX {t : Nat}{parts : Array (Nat × Operand)}{i : TI}{fs : List (Nat × Nat)} (h1 : tab t = some i) (h2 : i.kd = .struct fs) (h3 : (fs.all fun p => (tab p.2).isSome) = true)
    (h : fl tab env fs (fun cs => K (mkAgg cs) nx H) parts.toList (i.zero.map fun v => .f (.v v))) : stepOp P tab env nx H K (.build t parts) := .inl ⟨i,fs,h1,h2,h3,h⟩
theorem w7 {t n e : Nat}{parts : Array (Nat × Operand)}{i ie : TI} (h1 : tab t = some i) (h2 : i.kd = .arr n e) (h3 : tab e = some ie)
    (h : fl tab env ((List.range n).map fun k => (k * ie.size,e)) (fun cs => K (mkAgg cs) nx H) parts.toList (i.zero.map fun v => .f (.v v))) : stepOp P tab env nx H K (.build t parts) := .inr ⟨i,n,e,ie,h1,h2,h3,h⟩
theorem dp {fs : List (Nat × Nat)}{C : List PV → Prop}{cs : List PV} (h : C cs) : fl tab env fs C [] cs := ⟨cs,LeP.refl cs,h⟩
theorem vZ {fs : List (Nat × Nat)}{C : List PV → Prop}{cs : List PV} (ds : List PV) (hl : LeP cs ds) (h : C ds) : fl tab env fs C [] cs := ⟨ds,hl,h⟩
theorem br {fs : List (Nat × Nat)}{C : List PV → Prop}{cs : List PV}{q off ft : Nat}{x : Operand}{r : List (Nat × Operand)}{it : TI}{pv : PV} (h1 : fs[q]? = some (off,ft)) (h2 : tab ft = some it) (h3 : ev env x = some pv) (h4 : pv.storable = true)
    (h5 : pv.cells.length = it.size) (h6 : off + it.size ≤ cs.length) (h : fl tab env fs C r (splice cs off pv.cells)) : fl tab env fs C ((q,x) :: r) cs := ⟨off,ft,it,pv,h1,h2,h3,h4,h5,h6,h⟩
theorem rI {t len e : Nat}{parts : Array (Nat × Operand)}{i ie : TI}{ps : List PV}{ys : List FV} (h1 : tab t = some i) (h2 : i.kd = .slice e) (h3 : tab e = some ie) (h4 : ie.size ≠ 0) (h5 : len * ie.size ≤ 16777216) (h6 : parts.toList.map (·.1) = List.range len)
    (h7 : evs env (parts.toList.map (·.2)) = some ps) (h8 : nw H ps = some (ys,H')) (h9 : (ys.all (·.okay ie.size)) = true) (h : K (.ref nx 0 none) (nx + 1) ((nx,.buf true ie.size ys) :: H')) : stepOp P tab env nx H K (.buildSlice t len parts) :=
  ⟨i,e,ie,ps,ys,H',h1,h2,h3,h4,h5,h6,h7,h8,h9,h⟩
theorem nX {fn : Fn}{caps : Array Operand}{fi : Array Operand}{xs : List PV} (h1 : caps.toList.mapM (ev env) = some xs) (h0 : fi = #[]) (h : K (.clo fn xs) nx H) : stepOp P tab env nx H K (.makeFunc fn fi caps) := ⟨by subst h0; rfl,xs,h1,h⟩
theorem sK (h0 : ∀ e ie,tab e = some ie → ie.kd.agg = false → ie.size = 1) {t e : Nat}{x y : Operand}{i ie : TI}{k k2 : IntKind}{q r : Int} (h1 : tab t = some i) (h2 : i.kd = .slice e) (h3 : tab e = some ie) (h4 : ie.size ≠ 0) (h5 : ev env x = some (.f (.v (.int k q))))
    (h6 : ev env y = some (.f (.v (.int k2 r)))) (h7 : 0 ≤ q ∧ q ≤ r ∧ (ie.bytes : Int) * r ≤ 281474976710656 ∧ r ≤ 9223372036854775807)
    (h : K (.ref nx 0 none) (nx + 1) ((nx,.buf true ie.size (List.replicate q.toNat (if ie.kd.agg then .agg (ie.zero.map .v) else .v (ie.zero.headD undef)))) :: H)) : stepOp P tab env nx H K (.makeSlice t x y) :=
  ⟨h0,i,e,ie,k,k2,q,r,h1,h2,h3,h4,h5,h6,h7.1,h7.2.1,h7.2.2.1,h7.2.2.2,h⟩
theorem cD {op : Operand}{d n : Nat}{k : IntKind}{q : Int} (h : ev env op = some (.f (.v (.int k q)))) (h2 : q = n) : du env (some op) d n := ⟨k,q,h,by omega,by omega⟩
theorem lq {d : Nat} : du env none d d := rfl
theorem nV {t e : Nat}{x : Operand}{lo hi : Option Operand}{i ie : TI}{cl : Bool}{l : List FV}{a b : Nat} (h1 : tab t = some i) (h2 : i.kd = .slice e) (h3 : tab e = some ie) (hz : ie.size ≠ 0) (h4 : ev env x = some (.f (.sl ie.size cl l))) (h5 : du env lo 0 a)
    (h6 : du env hi l.length b) (h7 : a ≤ b ∧ b ≤ l.length) (h : K (.f (.sl ie.size (o7 none hi cl) ((l.take b).drop a))) nx H) : stepOp P tab env nx H K (.slice t x lo hi none) :=
  ⟨i,h1,.inr (.inl ⟨e,ie,cl,l,a,b,h2,h3,hz,h4,h5,h6,h7.1,h7.2,fun m hm => (by cases hm),h⟩)⟩
theorem sJ {t e : Nat}{x p m : Operand}{lo : Option Operand}{i ie : TI}{cl : Bool}{l : List FV}{a b : Nat} (h1 : tab t = some i) (h2 : i.kd = .slice e) (h3 : tab e = some ie) (hz : ie.size ≠ 0) (h4 : ev env x = some (.f (.sl ie.size cl l))) (h5 : du env lo 0 a)
    (h6 : du env (some p) l.length b) (h8 : du env (some m) 0 b) (h7 : a ≤ b ∧ b ≤ l.length) (h : K (.f (.sl ie.size true ((l.take b).drop a))) nx H) : stepOp P tab env nx H K (.slice t x lo (some p) (some m)) :=
  ⟨i,h1,.inr (.inl ⟨e,ie,cl,l,a,b,h2,h3,hz,h4,h5,h6,h7.1,h7.2,fun m' hm => by cases hm; exact ⟨p,rfl,h8⟩,h⟩)⟩
section
variable {s q off ft : Nat}{x : Operand}{i it : TI}{fs : List (Nat × Nat)}
theorem aX {n o1 : Nat} (h1 : tab s = some i) (h2 : i.kd = .struct fs) (h3 : fs[q]? = some (off,ft)) (h4 : tab ft = some it) (h5 : it.size ≠ 0 ∧ (it.kd.agg = false → it.size = 1)) (h6 : ev env x = some (.ptr n o1)) (h : K (.ptr n (o1 + off)) nx H) :
    stepOp P tab env nx H K (.fieldAddr s x q) := ⟨i,fs,off,ft,it,h1,h2,h3,h4,h5.1,h5.2,.inl ⟨n,o1,h6,h⟩⟩
end
section
variable {t e : Nat}{x ix : Operand}{i ie : TI}{k : IntKind}{q : Int}
theorem yW {cl : Bool}{l : List FV}{y : FV} (h1 : tab t = some i) (h2 : i.kd = .slice e) (h3 : tab e = some ie) (h4 : ev env ix = some (.f (.v (.int k q)))) (h5 : ev env x = some (.f (.sl ie.size cl l))) (h6 : 0 ≤ q) (h7 : l[q.toNat]? = some y) (h : K (.f (.ro y)) nx H) :
    stepOp P tab env nx H K (.indexAddr t x ix) := ⟨i,e,ie,k,q,h1,h3,h4,h6,.inl ⟨cl,l,y,h2,h5,h7,h⟩⟩
theorem wW {n lo : Nat}{hi : Option Nat}{wr : Bool}{l : List FV} (h1 : tab t = some i) (h2 : i.kd = .slice e) (h3 : tab e = some ie) (h4 : ev env ix = some (.f (.v (.int k q)))) (h5 : ev env x = some (.ref n lo hi)) (h5' : look H n = some (.buf wr ie.size l)) (h6 : 0 ≤ q)
    (h7 : q.toNat < (view lo hi l).length) (h : K (.ep n (lo + q.toNat) 0) nx H) : stepOp P tab env nx H K (.indexAddr t x ix) := ⟨i,e,ie,k,q,h1,h3,h4,h6,.inr (.inl ⟨n,lo,hi,wr,l,h2,h5,h5',h7,h⟩)⟩
theorem wX {n off m : Nat} (h1 : tab t = some i) (h2 : i.kd = .arr m e) (h3 : tab e = some ie) (h4 : ev env ix = some (.f (.v (.int k q)))) (h5 : ev env x = some (.ptr n off)) (h6 : 0 ≤ q) (h7 : q < m) (h : K (.ptr n (off + q.toNat * ie.size)) nx H) :
    stepOp P tab env nx H K (.indexAddr t x ix) := ⟨i,e,ie,k,q,h1,h3,h4,h6,.inr (.inr (.inl ⟨n,off,m,h2,h5,h7,h⟩))⟩
theorem yV {s : ByteArray}{b : UInt8} (h1 : tab t = some i) (h2 : i.kd = .str) (h3 : ev env ix = some (.f (.v (.int k q)))) (h4 : ev env x = some (.f (.v (.string s)))) (h5 : 0 ≤ q) (h6 : s[q.toNat]? = some b) (h : K (.f (.v (.int .u8 b.toNat))) nx H) :
    stepOp P tab env nx H K (.index t x ix) := ⟨i,k,q,s,b,h1,h2,h3,h5,h4,h6,h⟩
end
theorem cX {x : Operand}{i : Nat}{xs : List PV}{d : PV} (h1 : ev env x = some (.tup xs)) (h2 : xs[i]? = some d) (h : K d nx H) : stepOp P tab env nx H K (.extract x i) := ⟨xs,d,h1,h2,h⟩
theorem rL {τ : Nat → Nat}{r : PV} (hr : has (fun _ => false) r = true) : ren τ r = r := by
  have h1 : ∀ y,has1 (fun _ => false) y = true → ren1 τ y = y := by intro y hy; cases y <;> simp [has1] at hy <;> rfl
  have h1l : ∀ l : List PV,l.all (has1 fun _ => false) = true → l.map (ren1 τ) = l := by
    intro l hl
    induction l with
    | nil => rfl
    | cons x l ih => simp only [List.all_cons,Bool.and_eq_true] at hl; rw [List.map_cons,h1 x hl.1,ih hl.2]
  have h2 : ∀ y,has2 (fun _ => false) y = true → ren2 τ y = y := by
    intro y hy
    cases y <;> simp only [has2,ren2] at hy ⊢ <;> first|rw [h1l _ hy]|exact h1 _ hy
  have h2l : ∀ l : List PV,l.all (has2 fun _ => false) = true → l.map (ren2 τ) = l := by
    intro l hl
    induction l with
    | nil => rfl
    | cons x l ih => simp only [List.all_cons,Bool.and_eq_true] at hl; rw [List.map_cons,h2 x hl.1,ih hl.2]
  cases r <;> simp only [has,ren] at hr ⊢ <;> first|rw [h2l _ hr]|exact h2 _ hr
theorem r7 {p q : Nat → Bool} (hpq : ∀ n,p n = true → q n = true) {r : PV} (hr : has p r = true) : has q r = true := by
  have h1 : ∀ y,has1 p y = true → has1 q y = true := by intro y hy; cases y <;> simp only [has1] at hy ⊢ <;> first|exact hpq _ hy|exact hy
  have h1l : ∀ l : List PV,l.all (has1 p) = true → l.all (has1 q) = true := by
    intro l hl; rw [List.all_eq_true] at hl ⊢; exact fun x hx => h1 x (hl x hx)
  have h2 : ∀ y,has2 p y = true → has2 q y = true := by
    intro y hy
    cases y <;> simp only [has2] at hy ⊢ <;> first|exact h1l _ hy|exact h1 _ hy
  have h2l : ∀ l : List PV,l.all (has2 p) = true → l.all (has2 q) = true := by
    intro l hl; rw [List.all_eq_true] at hl ⊢; exact fun x hx => h2 x (hl x hx)
  cases r <;> simp only [has] at hr ⊢ <;> first|exact h2l _ hr|exact h2 _ hr
theorem Bl {f : Operand}{args : Array Operand}{ts : Array Nat}{g : Nat}{caps ps ps' : List PV}{r : PV} (h1 : ev env f = some (.clo (.func g) caps)) (h2 : evs env args.toList = some ps) (h3 : passes [] H (allArgs ps caps) = (ps',H'))
    (h4 : ps'.all (has fun _ => false) = true) (ht : T P g ps' 0 [] (Ret r 0 [])) (hr : has (fun _ => false) r = true) (h : K r nx H') : stepOp P tab env nx H K (.call { callee := .value f,args := args,argTypes := ts }) := by
  have hren : ∀ τ,ps'.map (ren τ) = ps' := by
    intro τ
    have : ∀ l : List PV,l.all (has fun _ => false) = true → l.map (ren τ) = l := by
      intro l hl
      induction l with
      | nil => rfl
      | cons x l ih => simp only [List.all_cons,Bool.and_eq_true] at hl; rw [List.map_cons,rL hl.1,ih hl.2]
    exact this ps' h4
  refine (⟨g,caps,ps,[],[],h1,h2,⟨rfl,fun i n h => by simp at h,List.nodup_nil⟩,fun i n h => by simp at h, ?_,rfl, ?_⟩ : jT P env H nx K f args.toList)
  · rw [h3]
    rw [List.all_eq_true] at h4 ⊢
    exact fun x hx => r7 (fun n hn => by cases hn) (h4 x hx)
  · rw [h3]
    simp only [hren,List.length_nil,List.map_nil,mkH]
    refine ht.mono fun r' k' Hr hq => ?_
    obtain ⟨rfl,rfl,rfl⟩ := hq
    refine ⟨⟨fun n o h => by simp at h,fun n o h => by simp at h,r7 (fun _ _ => rfl) hr⟩, ?_⟩
    rw [rL hr]
    simpa [renH,drops] using h
theorem yY {f : Operand}{args : Array Operand}{ts : Array Nat}{g : Nat}{caps ps : List PV}{r : PV}{k0 : Nat}{H0 : ah} (ns : List Nat) {os : List Obj} (h1 : ev env f = some (.clo (.func g) caps)) (h2 : evs env args.toList = some ps)
    (h3 : Handed (passes ns H (allArgs ps caps)).2 ns os) (h3' : (ns.all fun n => decide (n < nx)) = true) (h4 : ((passes ns H (allArgs ps caps)).1.all (has fun n => ns.contains n)) = true) (h5 : (os.all (hasO fun n => ns.contains n)) = true)
    (ht : T P g ((passes ns H (allArgs ps caps)).1.map (ren (tau ns))) ns.length (mkH 0 (os.map (renO (tau ns)))) (Ret r k0 H0)) (hr : has (fun _ => true) r = true) (hd : Dist H0) (ho : (H0.all fun p => hasO (fun _ => true) p.2) = true)
    (h : K (ren (sig ns nx) r) (nx + (k0 - ns.length)) (renH (sig ns nx) H0 ++ drops (passes ns H (allArgs ps caps)).2 ns)) : stepOp P tab env nx H K (.call { callee := .value f,args := args,argTypes := ts }) := by
  refine (⟨g,caps,ps,ns,os,h1,h2,h3,fun i n hi => ?_,h4,h5, ?_⟩ : jT P env H nx K f args.toList)
  · have := List.all_eq_true.1 h3' n (List.mem_of_getElem? hi); simpa using this
  · refine ht.mono fun r' k' Hr hq => ?_
    obtain ⟨rfl,rfl,rfl⟩ := hq
    exact ⟨⟨hd,fun n o h => List.all_eq_true.1 ho _ h,hr⟩,h⟩
end
def mt (l : List UInt8) : List FV := l.map fun b => .v (.int .u8 b.toNat)
@[simp] theorem Af (l : List UInt8) : (mt l).length = l.length := by simp [mt]
theorem sZ {n : Int} (h : 0 ≤ n ∧ n < 256) : IntKind.u8.wrap n = n := by
  have e1 : IntKind.u8.signed = false := rfl
  have e2 : IntKind.u8.bits = 8 := rfl
  simp only [IntKind.wrap,e1,e2]
  rw [show (2:Int) ^ 8 = 256 from rfl]
  simp; omega
theorem qS {n : Int} (h : 0 ≤ n ∧ n < 65536) : IntKind.u16.wrap n = n := by
  have e1 : IntKind.u16.signed = false := rfl
  have e2 : IntKind.u16.bits = 16 := rfl
  simp only [IntKind.wrap,e1,e2]
  rw [show (2:Int) ^ 16 = 65536 from rfl]
  simp; omega
theorem ki (n : Int) : IntKind.u8.wrap n = n % 256 := by
  have e1 : IntKind.u8.signed = false := rfl
  have e2 : IntKind.u8.bits = 8 := rfl
  simp only [IntKind.wrap,e1,e2]
  rw [show (2:Int) ^ 8 = 256 from rfl]
  simp
theorem lM (n : Int) : IntKind.u16.wrap n = n % 65536 := by
  have e1 : IntKind.u16.signed = false := rfl
  have e2 : IntKind.u16.bits = 16 := rfl
  simp only [IntKind.wrap,e1,e2]
  rw [show (2:Int) ^ 16 = 65536 from rfl]
  simp
theorem kb (a : UInt8) : a.toNat < 256 := a.toBitVec.isLt
theorem rX (a : UInt16) : a.toNat < 65536 := a.toBitVec.isLt
theorem Bq (a : UInt16) : BitVec.ofInt 16 (a.toNat : Int) = a.toBitVec := by
  apply BitVec.eq_of_toNat_eq
  simp [BitVec.toNat_ofInt]
theorem yf (a : UInt8) : BitVec.ofInt 8 (a.toNat : Int) = a.toBitVec := by
  apply BitVec.eq_of_toNat_eq
  simp [BitVec.toNat_ofInt]
theorem Cn (a b : UInt16) : dx .or .u16 a.toNat b.toNat = (a ||| b).toNat := by
  have : dx .or .u16 a.toNat b.toNat = IntKind.u16.wrap ((BitVec.ofInt 16 (a.toNat : Int) ||| BitVec.ofInt 16 (b.toNat : Int)).toNat : Int) := rfl
  rw [this,Bq,Bq,qS (by have := (a.toBitVec ||| b.toBitVec).isLt; omega)]; rfl
theorem CD (a b : UInt8) : dx .and .u8 a.toNat b.toNat = (a &&& b).toNat := by
  have : dx .and .u8 a.toNat b.toNat = IntKind.u8.wrap ((BitVec.ofInt 8 (a.toNat : Int) &&& BitVec.ofInt 8 (b.toNat : Int)).toNat : Int) := rfl
  rw [this,yf,yf,sZ (by have := (a.toBitVec &&& b.toBitVec).isLt; omega)]; rfl
theorem CL (a b : UInt8) : dx .or .u8 a.toNat b.toNat = (a ||| b).toNat := by
  have : dx .or .u8 a.toNat b.toNat = IntKind.u8.wrap ((BitVec.ofInt 8 (a.toNat : Int) ||| BitVec.ofInt 8 (b.toNat : Int)).toNat : Int) := rfl
  rw [this,yf,yf,sZ (by have := (a.toBitVec ||| b.toBitVec).isLt; omega)]; rfl
theorem BS (a : UInt16) (n : Nat) (hn : n < 16) : ((a.toNat : Int)).fdiv (2 ^ min ((n : Int)).toNat IntKind.u16.bits) = (a >>> UInt16.ofNat n).toNat := by
  have e : IntKind.u16.bits = 16 := rfl
  have e2 : ((n : Int)).toNat = n := rfl
  rw [e,e2,Nat.min_eq_left (by omega)]
  have : (a >>> UInt16.ofNat n).toNat = a.toNat / 2 ^ n := by
    rw [UInt16.toNat_shiftRight,Nat.shiftRight_eq_div_pow]
    congr 2
    simp; omega
  rw [this,Int.fdiv_eq_ediv_of_nonneg _ (Int.le_of_lt (Int.pow_pos (by omega)))]
  rw [Int.natCast_ediv,Int.natCast_pow]; rfl
theorem BT (a : UInt16) (n : Nat) (hn : n < 16) : IntKind.u16.wrap ((a.toNat : Int) * 2 ^ min ((n : Int)).toNat IntKind.u16.bits) = (a <<< UInt16.ofNat n).toNat := by
  have e : IntKind.u16.bits = 16 := rfl
  have e2 : ((n : Int)).toNat = n := rfl
  rw [e,e2,Nat.min_eq_left (by omega),lM]
  have : (a <<< UInt16.ofNat n).toNat = a.toNat * 2 ^ n % 65536 := by
    rw [UInt16.toNat_shiftLeft,Nat.shiftLeft_eq]
    have h1 : (UInt16.ofNat n).toNat % 16 = n := by simp; omega
    rw [h1]
  rw [this,Int.natCast_emod,Int.natCast_mul,Int.natCast_pow]; rfl
section
variable {P : Program}{tab : bR}{nx : Nat}{env : aI}{H : ah}{K : PV → Nat → ah → Prop}{t u : Nat}{x y : Operand}
theorem Bh {a b : UInt16} (h1 : ev env x = some (.f (.v (.int .u16 a.toNat)))) (h2 : ev env y = some (.f (.v (.int .u16 b.toNat)))) (h : K (.f (.v (.int .u16 (a ||| b).toNat))) nx H) : stepOp P tab env nx H K (.binOp .or t x y u) := oI h1 h2 (by rw [Cn]; exact h)
theorem u7 {a b : UInt8} (h1 : ev env x = some (.f (.v (.int .u8 a.toNat)))) (h2 : ev env y = some (.f (.v (.int .u8 b.toNat)))) (h : K (.f (.v (.int .u8 (a &&& b).toNat))) nx H) : stepOp P tab env nx H K (.binOp .and t x y u) := qx h1 h2 (by rw [CD]; exact h)
theorem BX {a b : UInt8} (h1 : ev env x = some (.f (.v (.int .u8 a.toNat)))) (h2 : ev env y = some (.f (.v (.int .u8 b.toNat)))) (h : K (.f (.v (.int .u8 (a ||| b).toNat))) nx H) : stepOp P tab env nx H K (.binOp .or t x y u) := oI h1 h2 (by rw [CL]; exact h)
theorem yP {a : UInt16} (n : Nat) {k : IntKind} (h1 : ev env x = some (.f (.v (.int .u16 a.toNat)))) (h2 : ev env y = some (.f (.v (.int k (n : Nat))))) (hn : n < 16) (h : K (.f (.v (.int .u16 (a >>> UInt16.ofNat n).toNat))) nx H) : stepOp P tab env nx H K (.binOp .shr t x y u) :=
  ub h1 h2 (by omega) (by rw [BS a n hn]; exact h)
theorem yQ {a : UInt16} (n : Nat) {k : IntKind} (h1 : ev env x = some (.f (.v (.int .u16 a.toNat)))) (h2 : ev env y = some (.f (.v (.int k (n : Nat))))) (hn : n < 16) (h : K (.f (.v (.int .u16 (a <<< UInt16.ofNat n).toNat))) nx H) : stepOp P tab env nx H K (.binOp .shl t x y u) :=
  nW h1 h2 (by omega) (by rw [BT a n hn]; exact h)
theorem te {a b : UInt16} (h1 : ev env x = some (.f (.v (.int .u16 a.toNat)))) (h2 : ev env y = some (.f (.v (.int .u16 b.toNat)))) (h : K (.f (.v (.bool (decide (a = b))))) nx H) : stepOp P tab env nx H K (.binOp .eql t x y u) :=
  bF h1 h2 (by
    have : decide ((a.toNat : Int) = b.toNat) = decide (a = b) := by
      by_cases e : a = b
      · subst e; simp
      · have : a.toNat ≠ b.toNat := fun q => e (UInt16.toNat_inj.1 q)
        simp [e]; omega
    rw [this]; exact h)
theorem mD {a b : UInt16} (h1 : ev env x = some (.f (.v (.int .u16 a.toNat)))) (h2 : ev env y = some (.f (.v (.int .u16 b.toNat)))) (h : K (.f (.v (.bool (!decide (a = b))))) nx H) : stepOp P tab env nx H K (.binOp .neq t x y u) :=
  el h1 h2 (by
    have : decide ((a.toNat : Int) = b.toNat) = decide (a = b) := by
      by_cases e : a = b
      · subst e; simp
      · have : a.toNat ≠ b.toNat := fun q => e (UInt16.toNat_inj.1 q)
        simp [e]; omega
    rw [this]; exact h)
theorem rD {a b : UInt8} (h1 : ev env x = some (.f (.v (.int .u8 a.toNat)))) (h2 : ev env y = some (.f (.v (.int .u8 b.toNat)))) (h : K (.f (.v (.bool (decide (a = b))))) nx H) : stepOp P tab env nx H K (.binOp .eql t x y u) :=
  bF h1 h2 (by
    have : decide ((a.toNat : Int) = b.toNat) = decide (a = b) := by
      by_cases e : a = b
      · subst e; simp
      · have : a.toNat ≠ b.toNat := fun q => e (UInt8.toNat_inj.1 q)
        simp [e]; omega
    rw [this]; exact h)
theorem pH {s t : Nat}{is it : TI}{k2 : IntKind}{a : UInt8} (h1 : tab s = some is) (h2 : tab t = some it) (h3 : it.kd = .int .u16) (h4 : is.kd = .int k2) (h5 : ev env x = some (.f (.v (.int .u8 a.toNat)))) (h : K (.f (.v (.int .u16 a.toUInt16.toNat))) nx H) :
    stepOp P tab env nx H K (.convert s t x) := hY h1 h2 h3 h4 h5 (by
      rw [qS (by have := kb a; omega)]
      have : a.toUInt16.toNat = a.toNat := by simp
      rw [← this]; exact h)
theorem pJ {s t : Nat}{is it : TI}{k2 : IntKind}{a : UInt16} (h1 : tab s = some is) (h2 : tab t = some it) (h3 : it.kd = .int .u8) (h4 : is.kd = .int k2) (h5 : ev env x = some (.f (.v (.int .u16 a.toNat)))) (h : K (.f (.v (.int .u8 a.toUInt8.toNat))) nx H) :
    stepOp P tab env nx H K (.convert s t x) := hY h1 h2 h3 h4 h5 (by
      rw [ki]
      have : a.toUInt8.toNat = a.toNat % 256 := UInt16.toNat_toUInt8 a
      have e : ((a.toNat : Int)) % 256 = (a.toUInt8.toNat : Int) := by rw [this,Int.natCast_emod]; rfl
      rw [e]; exact h)
theorem tf {s t : Nat}{is it : TI}{k k2 : IntKind}{a : Int}{b : UInt8} (h1 : tab s = some is) (h2 : tab t = some it) (h3 : it.kd = .int .u8) (h4 : is.kd = .int k2) (h5 : ev env x = some (.f (.v (.int k a)))) (hb : (b.toNat : Int) = a % 256)
    (h : K (.f (.v (.int .u8 b.toNat))) nx H) : stepOp P tab env nx H K (.convert s t x) := hY h1 h2 h3 h4 h5 (by rw [ki,← hb]; exact h)
theorem w4 {s t : Nat}{is it : TI}{k k2 : IntKind}{a : Int}{b : UInt16} (h1 : tab s = some is) (h2 : tab t = some it) (h3 : it.kd = .int .u16) (h4 : is.kd = .int k2) (h5 : ev env x = some (.f (.v (.int k a)))) (hb : (b.toNat : Int) = a % 65536)
    (h : K (.f (.v (.int .u16 b.toNat))) nx H) : stepOp P tab env nx H K (.convert s t x) := hY h1 h2 h3 h4 h5 (by rw [lM,← hb]; exact h)
theorem wZ {s t : Nat}{is it : TI}{k k2 : IntKind}{a : Int} (h1 : tab s = some is) (h2 : tab t = some it) (h3 : it.kd = .int .i64) (h4 : is.kd = .int k2) (h5 : ev env x = some (.f (.v (.int k a)))) (hb : -9223372036854775808 ≤ a ∧ a ≤ 9223372036854775807)
    (h : K (.f (.v (.int .i64 a))) nx H) : stepOp P tab env nx H K (.convert s t x) := hY h1 h2 h3 h4 h5 (by rw [wrap_i64 hb]; exact h)
end
def sel {α : Type} (l : List (Nat × α)) : List Nat → List (Nat × α)
  | [] => []
  | k :: t => match look l k with
    | some x => (k,x) :: sel l t
    | none => sel l t
theorem look_sel {α : Type}{l : List (Nat × α)} : ∀ {ks : List Nat}{q : Nat}{x : α},look (sel l ks) q = some x → look l q = some x
  | [],q,x,h => by simp [sel,look] at h
  | k :: t,q,x,h => by
    simp only [sel] at h
    split at h
    · rename_i y hy
      simp only [look] at h
      split at h
      · rename_i e; subst e; cases h; exact hy
      · exact look_sel h
    · exact look_sel h
theorem look_none {α : Type}{l : List (Nat × α)}{n : Nat} : look l n = none ↔ n ∉ l.map Prod.fst := by
  induction l with
  | nil => simp [look]
  | cons p l ih =>
    obtain ⟨k,x⟩ := p
    simp only [look,List.map_cons,List.mem_cons]
    by_cases h : k = n
    · subst h; simp
    · rw [if_neg h,ih]
      constructor
      · rintro h1 (h2|h2)
        · exact h h2.symm
        · exact h1 h2
      · intro h1 h2; exact h1 (.inr h2)
def BK : Operand → List Nat
  | .tmp t => [t]
  | _ => []
def rR : PV → List Nat
  | .ptr n _ => [n]
  | .ref n _ _ => [n]
  | .ep n _ _ => [n]
  | _ => []
def zu : PV → List Nat
  | .agg cs => cs.flatMap rR
  | .clo _ cs => cs.flatMap rR
  | x => rR x
def uk (env : aI) (x : Operand) : List Nat := match ev env x with|some pv => zu pv|none => []
def B9 : Op → List Operand
  | .move x|.assign x|.load _ x|.nilCheck x|.unOp _ _ x|.convert _ _ x|.extract x _|.box _ x|.field _ x _|.fieldAddr _ x _ => [x]
  | .pick x a b => [x,a,b]
  | .build _ parts => parts.toList.map (·.2)
  | .buildSlice _ _ parts => parts.toList.map (·.2)
  | .store _ x y|.binOp _ _ x y _|.makeSlice _ x y|.indexAddr _ x y|.index _ x y => [x,y]
  | .slice _ x lo hi mx => x :: (lo.toList ++ hi.toList ++ mx.toList)
  | .makeFunc _ _ caps => caps.toList
  | .call { callee := .value f,args,argTypes := _ } => f :: args.toList
  | .call { callee := .builtin _,args,argTypes := _ } => args.toList
  | _ => []
def vI (ops : Array Oper) (o : Oper) : List Nat := match o.guard with|some (j,_) => ((ops[j]?).bind (·.dst)).toList|none => []
def cutE (ops : Array Oper) (o : Oper) (env : aI) : aI := sel env (vI ops o ++ (B9 o.op).flatMap BK)
def sameH (H' : ah) : ah → Prop
  | [] => True
  | (n,o) :: t => look H' n = some o ∧ sameH H' t
theorem sameH.get {H' : ah} : ∀ {rd : ah},sameH H' rd → ∀ n o,look rd n = some o → look H' n = some o
  | [],_,n,o,h => by simp [look] at h
  | (k,x) :: t,hs,n,o,h => by
    simp only [look] at h
    split at h
    · rename_i e; subst e; cases h; exact hs.1
    · exact hs.2.get n o h
section
variable (P : Program) (tab : bR) (ops : Array Oper) (B : List (List Nat))
def dM : List Oper → List Cert → aI → Nat → ah → (List Cert → aI → Nat → ah → Prop) → Prop
  | [],acc,env,nx,H,C => C acc.reverse env nx H
  | o :: rest,acc,env,nx,H,C =>
    let run := ∃ rN tN p nx' H',stepOp P tab (cutE ops o env) nx (sel H rN ++ sel H tN) (fun a b d => a = p ∧ b = nx' ∧ d = H') o.op ∧ nx ≤ nx' ∧ sameH H' (sel H rN) ∧
      dM rest (⟨o,some p,cutE ops o env,sel H rN,sel H tN,drops H' ((sel H rN).map Prod.fst),nx,nx',B.getD acc.length []⟩ :: acc) (putE o.dst p env) nx'
        (drops H' ((sel H rN).map Prod.fst) ++ drops H ((sel H tN).map Prod.fst)) C
    match o.guard with
    | none => run
    | some (j,want) => ∃ d v,(ops[j]?).bind (·.dst) = some d ∧ look (cutE ops o env) d = some (.f (.v v)) ∧ (vb v = some want → run) ∧
        (vb v ≠ some want → dM rest (⟨o,some aZ,cutE ops o env,[],[],[],nx,nx,B.getD acc.length []⟩ :: acc) (fQ o.dst env) nx H C)
def uD : Bool :=
  (List.range ops.size).all fun j => match ops[j]? with
    | some o => (o.after.toList.all fun e => !Region.binds .any e || decide (e.on < j)) &&
        ((B.getD j []).all fun i => o.after.toList.any fun e => Region.binds .any e && (i == e.on || (B.getD e.on []).contains i))
    | none => true
end
def uo (a b : Cert) : Bool :=
  (match a.o.dst with|some k => b.o.dst == some k || (look b.eS k).isSome|none => false) || ((a.hS ++ a.hT).any fun p => b.touches p.1 || (look b.rd p.1).isSome)
def ta (a b : Cert) : Bool :=
  (match b.pv with|some x => has (outP a.M a.M') x|none => true) && b.hT.all fun p => outP a.M a.M' p.1 && hasO (outP a.M a.M') p.2
def certB (nt N : Nat) (c : Cert) : Bool :=
  dstOk nt c.o.dst && (c.eS.all fun p => has (fun n => decide (n < c.M)) p.2 && decide (p.1 < nt)) && ((c.rd ++ c.hS).all fun p => decide (p.1 < c.M) && hasO (fun n => decide (n < c.M)) p.2) &&
    (c.hT.all fun p => (look c.hS p.1).isSome || (decide (c.M ≤ p.1) && decide (p.1 < c.M'))) && (c.rd.all fun p => !c.touches p.1) && ((c.rd ++ c.hT).all fun p => hasO (fun _ => true) p.2 && decide (p.1 < N)) &&
    (match c.pv with|some p => has (fun _ => true) p|none => true)
def qA (a b : Cert) (i j : Nat) : Bool :=
  i == j || ((!uo a b || (decide (i < j) && b.bef.contains i) || (decide (j < i) && a.bef.contains j)) && (ta a b || b.bef.contains i))
def Bn (cs : List Cert) : Bool := cs.zipIdx.all fun a => cs.zipIdx.all fun b => qA a.1 b.1 a.2 b.2
def j8 (nt nx0 N : Nat) (env0 : aI) (H0 : ah) (cs : List Cert) : Bool :=
  (env0.all fun p => has (fun n => decide (n < nx0)) p.2) && (H0.all fun p => decide (p.1 < nx0) && hasO (fun n => decide (n < nx0)) p.2) && cs.all (certB nt N) && Bn cs
section
variable {P : Program}{tab : bR}{c : Ctx}{ops : Array Oper}{B : List (List Nat)}{nx0 : Nat}{env0 : aI}{H0 : ah}
abbrev fE (env0 : aI) (cs : List Cert) : Nat → Option PV := cs.foldl (fun f c => jP c f) (look env0)
abbrev fH (H0 : ah) (cs : List Cert) : Nat → Option Obj := cs.foldl (fun f c => iW c f) (look H0)
def v9 (P : Program) (tab : bR) (ops : Array Oper) (c : Cert) : Prop :=
  let run := ∃ p,c.pv = some p ∧ stepOp P tab c.eS c.M (c.rd ++ c.hS) (fun pv' nx' H' => pv' = p ∧ nx' = c.M' ∧ ∀ n,look H' n = look (c.rd ++ c.hT) n) c.o.op
  match c.o.guard with
  | none => run
  | some (j,want) => ∃ d v,(ops[j]?).bind (·.dst) = some d ∧ look c.eS d = some (.f (.v v)) ∧ (vb v = some want → run) ∧ (vb v ≠ some want → c.pv = some aZ ∧ c.hS = [] ∧ c.hT = [])
structure Inv (P : Program) (tab : bR) (ops : Array Oper) (B : List (List Nat)) (nx0 : Nat) (env0 : aI) (H0 : ah) (cs : List Cert) (env : aI) (nx : Nat) (H : ah) : Prop where
  op : ∀ (j : Nat) c,cs[j]? = some c → ops[j]? = some c.o
  ok : ∀ (j : Nat) c,cs[j]? = some c → v9 P tab ops c
  mm : ∀ (j : Nat) c,cs[j]? = some c → nx0 ≤ c.M ∧ c.M ≤ c.M' ∧ c.M' ≤ nx
  envq : ∀ k,look env k = fE env0 cs k
  hq : ∀ n,look H n = fH H0 cs n
  rE : ∀ (j : Nat) c,cs[j]? = some c → ∀ q x,look c.eS q = some x → fE env0 (cs.take j) q = some x
  rH : ∀ (j : Nat) c,cs[j]? = some c → ∀ n o,look (c.rd ++ c.hS) n = some o → fH H0 (cs.take j) n = some o
  bef : ∀ (j : Nat) c,cs[j]? = some c → c.bef = B.getD j []
  nx : nx0 ≤ nx
theorem Inv.snoc {cs : List Cert}{env env' : aI}{nx nx' : Nat}{H H' : ah} (h : Inv P tab ops B nx0 env0 H0 cs env nx H) {c : Cert} (ho : ops[cs.length]? = some c.o) (hc : v9 P tab ops c) (hm : c.M = nx) (hm' : c.M' = nx') (hle : nx ≤ nx')
    (he : ∀ k,look env' k = jP c (look env) k) (hh : ∀ n,look H' n = iW c (look H) n) (hrE : ∀ q x,look c.eS q = some x → look env q = some x) (hrH : ∀ n o,look (c.rd ++ c.hS) n = some o → look H n = some o)
    (hb : c.bef = B.getD cs.length []) : Inv P tab ops B nx0 env0 H0 (cs ++ [c]) env' nx' H' := by
  have hget : ∀ (j : Nat) d,(cs ++ [c])[j]? = some d → (cs[j]? = some d ∧ j < cs.length) ∨ (j = cs.length ∧ d = c) := by
    intro j d hj
    rw [List.getElem?_append] at hj
    split at hj
    · rename_i hlt; exact .inl ⟨hj,hlt⟩
    · rename_i hge
      have hz : j - cs.length = 0 := by have := (List.getElem?_eq_some_iff.1 hj).1; simp at this; omega
      rw [hz] at hj
      simp at hj
      exact .inr ⟨by omega,hj.symm⟩
  have hE1 : ∀ k,fE env0 (cs ++ [c]) k = jP c (look env) k := by
    intro k
    simp only [fE,List.foldl_append,List.foldl_cons,List.foldl_nil,jP]
    split
    · rfl
    · exact (h.envq k).symm
  have hH1 : ∀ k,fH H0 (cs ++ [c]) k = iW c (look H) k := by
    intro k
    simp only [fH,List.foldl_append,List.foldl_cons,List.foldl_nil,iW]
    split
    · rfl
    · exact (h.hq k).symm
  refine ⟨fun j d hj => ?_,fun j d hj => ?_,fun j d hj => ?_,fun k => by rw [he,hE1],fun k => by rw [hh,hH1],fun j d hj => ?_,fun j d hj => ?_,fun j d hj => ?_,Nat.le_trans h.nx hle⟩
  · rcases hget j d hj with ⟨a,_⟩|⟨rfl,rfl⟩
    · exact h.op j d a
    · exact ho
  · rcases hget j d hj with ⟨a,_⟩|⟨rfl,rfl⟩
    · exact h.ok j d a
    · exact hc
  · rcases hget j d hj with ⟨a,_⟩|⟨rfl,rfl⟩
    · have := h.mm j d a; omega
    · have := h.nx; omega
  · rcases hget j d hj with ⟨a,hlt⟩|⟨rfl,rfl⟩
    · rw [List.take_append_of_le_length (by omega)]; exact h.rE j d a
    · intro q x hq
      rw [List.take_append_of_le_length (Nat.le_refl _),List.take_length]
      rw [← h.envq]; exact hrE q x hq
  · rcases hget j d hj with ⟨a,hlt⟩|⟨rfl,rfl⟩
    · rw [List.take_append_of_le_length (by omega)]; exact h.rH j d a
    · intro q x hq
      rw [List.take_append_of_le_length (Nat.le_refl _),List.take_length]
      rw [← h.hq]; exact hrH q x hq
  · rcases hget j d hj with ⟨a,_⟩|⟨rfl,rfl⟩
    · exact h.bef j d a
    · exact hb
section
variable {env : aI}{nx : Nat}{H : ah}{K K' : PV → Nat → ah → Prop}
theorem rt {C C' : Value → Prop} (hk : ∀ r,C r → C' r) {op : BinOp}{kd : Kd}{a b : Value} (h : gV op kd C a b) : gV op kd C' a b := by
  unfold gV at h ⊢
  split at h
  · cases op <;> simp only [] at h ⊢ <;> first|exact ⟨h.1,hk _ h.2⟩|exact ⟨h.1,h.2.1,hk _ h.2.2⟩
  · cases op <;> simp only [] at h ⊢ <;> first|exact h.elim|exact hk _ h|exact ⟨h.1,hk _ h.2⟩
  · cases kd <;> cases op <;> simp only [] at h ⊢ <;> first|exact h.elim|exact hk _ h
  · cases kd <;> cases op <;> simp only [] at h ⊢ <;> first|exact h.elim|exact hk _ h
  · cases kd <;> cases op <;> simp only [] at h ⊢ <;> first|exact h.elim|exact hk _ h
  · exact h.elim
theorem sH {C C' : Value → Prop} (hk : ∀ r,C r → C' r) {op : UnOp}{a : Value} (h : lV op C a) : lV op C' a := by
  unfold lV at h ⊢
  split at h <;> first|exact h.elim|(cases op <;> simp only [] at h ⊢ <;> first|exact h.elim|exact hk _ h)
theorem kp {C C' : List PV → Prop} (hk : ∀ r,C r → C' r) {fs : List (Nat × Nat)} : ∀ {parts : List (Nat × Operand)}{cs : List PV},fl tab env fs C parts cs → fl tab env fs C' parts cs
  | [],cs,⟨ds,hl,h⟩ => ⟨ds,hl,hk _ h⟩
  | (q,x) :: r,cs,⟨off,ft,it,pv,h1,h2,h3,h4,h5,h6,h⟩ => ⟨off,ft,it,pv,h1,h2,h3,h4,h5,h6,kp hk h⟩
theorem sI {op : Op} (hk : ∀ a b d,K a b d → K' a b d) (h : stepOp P tab env nx H K op) : stepOp P tab env nx H K' op := by
  unfold stepOp at h ⊢
  split at h
  case h_1 => obtain ⟨pv,h1,h2⟩ := h; exact ⟨pv,h1,hk _ _ _ h2⟩
  case h_2 => obtain ⟨pv,h1,h2⟩ := h; exact ⟨pv,h1,hk _ _ _ h2⟩
  case h_3 =>
    obtain ⟨t,h1,h2,h3⟩ := h
    exact ⟨t,h1,fun e => (h2 e).imp fun _ h => ⟨h.1,hk _ _ _ h.2⟩,fun e => (h3 e).imp fun _ h => ⟨h.1,hk _ _ _ h.2⟩⟩
  case h_4 => obtain ⟨i,h1,h2⟩ := h; exact ⟨i,h1,hk _ _ _ h2⟩
  case h_5 => obtain ⟨pv,h1,h2,h3⟩ := h; exact ⟨pv,h1,h2,hk _ _ _ h3⟩
  case h_6 =>
    rcases h with ⟨i,fs,h1,h2,h3,h4⟩|⟨i,n,e,ie,h1,h2,h3,h4⟩
    · exact .inl ⟨i,fs,h1,h2,h3,kp (fun _ h => hk _ _ _ h) h4⟩
    · exact .inr ⟨i,n,e,ie,h1,h2,h3,kp (fun _ h => hk _ _ _ h) h4⟩
  case h_7 => obtain ⟨i,e,ie,ps,ys,H',h1,h2,h3,h4,h5,h6,h7,h8,h9,h10⟩ := h; exact ⟨i,e,ie,ps,ys,H',h1,h2,h3,h4,h5,h6,h7,h8,h9,hk _ _ _ h10⟩
  case h_8 =>
    obtain ⟨i,h1,h2,h⟩ := h
    refine ⟨i,h1,h2, ?_⟩
    rcases h with ⟨n,off,cs,g1,g2,g3,g4⟩|⟨y,g1,g2,g3,g4,g5⟩|⟨n,j,off,wr,sz,l,y,g1,g2,g3,g4,g5⟩
    · exact .inl ⟨n,off,cs,g1,g2,g3,hk _ _ _ g4⟩
    · exact .inr (.inl ⟨y,g1,g2,g3,g4,hk _ _ _ g5⟩)
    · exact .inr (.inr ⟨n,j,off,wr,sz,l,y,g1,g2,g3,g4,hk _ _ _ g5⟩)
  case h_9 =>
    obtain ⟨i,pv,h1,h2,h3,h4,h⟩ := h
    refine ⟨i,pv,h1,h2,h3,h4, ?_⟩
    rcases h with ⟨n,off,cs,g1,g2,g3,g4⟩|⟨n,j,off,sz,l,z,fs,g1,g2,g3,g4,g5,g6,g7,g8⟩
    · exact .inl ⟨n,off,cs,g1,g2,g3,hk _ _ _ g4⟩
    · exact .inr ⟨n,j,off,sz,l,z,fs,g1,g2,g3,g4,g5,g6,g7,hk _ _ _ g8⟩
  case h_10 => obtain ⟨pv,h1,h2,h3⟩ := h; exact ⟨pv,h1,h2,hk _ _ _ h3⟩
  case h_11 =>
    rcases h with ⟨a,b,h1,h2,h⟩|⟨i,pv,h1,h2,h3,h4,h⟩|⟨fs,cs,ds,r,h1,h2,h3,h4,h5,h6,h⟩
    · exact .inl ⟨a,b,h1,h2,rt (fun _ h => hk _ _ _ h) h⟩
    · refine .inr (.inl ⟨i,pv,h1,h2,h3,h4, ?_⟩)
      rcases h with ⟨e,h⟩|⟨e,h⟩
      · exact .inl ⟨e,fun b hb => hk _ _ _ (h b hb)⟩
      · exact .inr ⟨e,fun b hb => hk _ _ _ (h b hb)⟩
    · refine .inr (.inr ⟨fs,cs,ds,r,h1,h2,h3,h4,h5,h6, ?_⟩)
      rcases h with ⟨e,h⟩|⟨e,h⟩
      · exact .inl ⟨e,hk _ _ _ h⟩
      · exact .inr ⟨e,hk _ _ _ h⟩
  case h_12 => obtain ⟨v,h1,h2⟩ := h; exact ⟨v,h1,sH (fun _ h => hk _ _ _ h) h2⟩
  case h_13 =>
    rcases h with ⟨is,it,h1,h2,h⟩|⟨is,it,h1,h2,h⟩
    · refine .inl ⟨is,it,h1,h2, ?_⟩
      rcases h with ⟨k,k',a,g1,g2,g3,g4⟩|⟨a,g1,g2,g3,g4⟩
      · exact .inl ⟨k,k',a,g1,g2,g3,hk _ _ _ g4⟩
      · exact .inr ⟨a,g1,g2,g3,hk _ _ _ g4⟩
    · refine .inr ⟨is,it,h1,h2, ?_⟩
      rcases h with ⟨e,ie,ns,g1,g2,g3,g4,g5,g6⟩|⟨e,ie,a,g1,g2,g3,g4,g5,g6⟩|⟨e,ie,n,lo,hi,wr,l,g0,g1,g2,g3,g4,g5,g6,g7⟩
      · exact .inl ⟨e,ie,ns,g1,g2,g3,g4,g5,hk _ _ _ g6⟩
      · exact .inr (.inl ⟨e,ie,a,g1,g2,g3,g4,g5,hk _ _ _ g6⟩)
      · exact .inr (.inr ⟨e,ie,n,lo,hi,wr,l,g0,g1,g2,g3,g4,g5,g6,hk _ _ _ g7⟩)
  case h_14 => obtain ⟨h0,xs,h1,h2⟩ := h; exact ⟨h0,xs,h1,hk _ _ _ h2⟩
  case h_15 => obtain ⟨h0,i,e,ie,k,k2,q,r,h1,h2,h3,h4,h5,h6,h7,h8,h9,h10,h11⟩ := h; exact ⟨h0,i,e,ie,k,k2,q,r,h1,h2,h3,h4,h5,h6,h7,h8,h9,h10,hk _ _ _ h11⟩
  case h_16 =>
    obtain ⟨i,h1,h⟩ := h
    refine ⟨i,h1, ?_⟩
    rcases h with ⟨s,a,b,g1,g2,g3,g4,g5,g6,g7,g8⟩|⟨e,ie,cl,l,a,b,g1,g2,g3,g4,g5,g6,g7,g8,g9,g10⟩|⟨e,ie,n,lo0,hi0,wr,l,a,b,g1,g2,g3,g4,g5,g6,g7,g8,g9,g10⟩|⟨e,ie,g1,g2,g3,g4,g5,g6,g7,g8⟩
    · exact .inl ⟨s,a,b,g1,g2,g3,g4,g5,g6,g7,hk _ _ _ g8⟩
    · exact .inr (.inl ⟨e,ie,cl,l,a,b,g1,g2,g3,g4,g5,g6,g7,g8,g9,hk _ _ _ g10⟩)
    · exact .inr (.inr (.inl ⟨e,ie,n,lo0,hi0,wr,l,a,b,g1,g2,g3,g4,g5,g6,g7,g8,g9,hk _ _ _ g10⟩))
    · exact .inr (.inr (.inr ⟨e,ie,g1,g2,g3,g4,g5,g6,g7,hk _ _ _ g8⟩))
  case h_17 =>
    obtain ⟨i,fs,off,ft,it,h1,h2,h3,h4,h5,h6,h⟩ := h
    refine ⟨i,fs,off,ft,it,h1,h2,h3,h4,h5,h6, ?_⟩
    rcases h with ⟨n,o1,g1,g2⟩|⟨cs,g1,g2,g3,g4⟩|⟨n,j,o1,g1,g2⟩
    · exact .inl ⟨n,o1,g1,hk _ _ _ g2⟩
    · exact .inr (.inl ⟨cs,g1,g2,g3,hk _ _ _ g4⟩)
    · exact .inr (.inr ⟨n,j,o1,g1,hk _ _ _ g2⟩)
  case h_18 =>
    obtain ⟨i,fs,off,ft,it,h1,h2,h3,h4,h5,h⟩ := h
    refine ⟨i,fs,off,ft,it,h1,h2,h3,h4,h5, ?_⟩
    rcases h with ⟨cs,g1,g2,g3⟩|⟨cs,g1,g2,g3⟩
    · exact .inl ⟨cs,g1,g2,hk _ _ _ g3⟩
    · exact .inr ⟨cs,g1,g2,hk _ _ _ g3⟩
  case h_19 =>
    obtain ⟨i,e,ie,k,q,h1,h2,h3,h4,h⟩ := h
    refine ⟨i,e,ie,k,q,h1,h2,h3,h4, ?_⟩
    rcases h with ⟨cl,l,y,g1,g2,g3,g4⟩|⟨n,lo,hi,wr,l,g1,g2,g3,g4,g5⟩|⟨n,off,m,g1,g2,g3,g4⟩|⟨cs,m,g1,g2,g3,g4,g5,g6,g7,g8⟩
    · exact .inl ⟨cl,l,y,g1,g2,g3,hk _ _ _ g4⟩
    · exact .inr (.inl ⟨n,lo,hi,wr,l,g1,g2,g3,g4,hk _ _ _ g5⟩)
    · exact .inr (.inr (.inl ⟨n,off,m,g1,g2,g3,hk _ _ _ g4⟩))
    · exact .inr (.inr (.inr ⟨cs,m,g1,g2,g3,g4,g5,g6,g7,hk _ _ _ g8⟩))
  case h_20 => obtain ⟨i,k,q,s,b,h1,h2,h3,h4,h5,h6,h7⟩ := h; exact ⟨i,k,q,s,b,h1,h2,h3,h4,h5,h6,hk _ _ _ h7⟩
  case h_21 => obtain ⟨xs,d,h1,h2,h3⟩ := h; exact ⟨xs,d,h1,h2,hk _ _ _ h3⟩
  case h_22 => obtain ⟨h0,h1⟩ := h; exact ⟨h0,fun r => hk _ _ _ (h1 r)⟩
  case h_23 => obtain ⟨h0,kt,et,r,n,es,a,h1,h2,h3,h4,h5,h6,h7⟩ := h; exact ⟨h0,kt,et,r,n,es,a,h1,h2,h3,h4,h5,h6,hk _ _ _ h7⟩
  case h_24 => obtain ⟨kt,et,r,n,es,a,b,h1,h2,h3,h4,h5,h6,h7,h8⟩ := h; exact ⟨kt,et,r,n,es,a,b,h1,h2,h3,h4,h5,h6,h7,hk _ _ _ h8⟩
  case h_25 =>
    obtain ⟨g,caps,ps,ns,os,h1,h2,h3,h4,h5,h6,h7⟩ := h
    exact ⟨g,caps,ps,ns,os,h1,h2,h3,h4,h5,h6,h7.mono fun r k' Hr hq => ⟨hq.1,hk _ _ _ hq.2⟩⟩
  case h_26 =>
    split at h
    · obtain ⟨i,h1,h⟩ := h
      refine ⟨i,h1, ?_⟩
      rcases h with ⟨e,sz,l,g1,g2,g3⟩|⟨s,g1,g2,g3⟩|⟨n,e,g1,g2⟩
      · exact .inl ⟨e,sz,l,g1,g2,hk _ _ _ g3⟩
      · exact .inr (.inl ⟨s,g1,g2,hk _ _ _ g3⟩)
      · exact .inr (.inr ⟨n,e,g1,hk _ _ _ g2⟩)
    · obtain ⟨i,e,ie,xs,h1,h2,h3,h4,h5,h6,h⟩ := h
      refine ⟨i,e,ie,xs,h1,h2,h3,h4,h5,h6, ?_⟩
      rcases h with ⟨n,lo,wr,l,g1,g2,g3,g4⟩|⟨g1,g2,g3⟩|⟨l,g1,g2,g3,g4⟩|⟨l,g1,g2,g3⟩
      · exact .inl ⟨n,lo,wr,l,g1,g2,g3,hk _ _ _ g4⟩
      · exact .inr (.inl ⟨g1,g2,hk _ _ _ g3⟩)
      · exact .inr (.inr (.inl ⟨l,g1,g2,g3,hk _ _ _ g4⟩))
      · exact .inr (.inr (.inr ⟨l,g1,g2,hk _ _ _ g3⟩))
    · obtain ⟨i,e,ie,xs,n,lo,l,h1,h2,h3,h4,h5,h6,h7,h8⟩ := h
      exact ⟨i,e,ie,xs,n,lo,l,h1,h2,h3,h4,h5,h6,h7,hk _ _ _ h8⟩
    · obtain ⟨k,p,qs,ns,h1,h2,h⟩ := h
      refine ⟨k,p,qs,ns,h1,h2, ?_⟩
      rcases h with ⟨e,h⟩|⟨e,h⟩
      · exact .inl ⟨e,hk _ _ _ h⟩
      · exact .inr ⟨e,hk _ _ _ h⟩
    · obtain ⟨k,p,qs,ns,h1,h2,h⟩ := h
      refine ⟨k,p,qs,ns,h1,h2, ?_⟩
      rcases h with ⟨e,h⟩|⟨e,h⟩
      · exact .inl ⟨e,hk _ _ _ h⟩
      · exact .inr ⟨e,hk _ _ _ h⟩
    · exact h.elim
  case h_27 => exact h.elim
end
theorem look_putE {d : Option Nat}{p : PV}{env : aI}{k : Nat} : look (putE d p env) k = if d = some k then some p else look env k := by
  cases d with
  | none => simp [putE]
  | some d => simp only [putE,look,Option.some.injEq]
theorem look_dropE {d : Option Nat}{env : aI}{k : Nat} : look (fQ d env) k = if d = some k then some aZ else look env k := look_putE
theorem qT {C : List Cert → aI → Nat → ah → Prop} : ∀ (rest : List Oper) (acc : List Cert) (env : aI) (nx : Nat) (H : ah),dM P tab ops B rest acc env nx H C → ops.toList = acc.reverse.map (·.o) ++ rest →
    Inv P tab ops B nx0 env0 H0 acc.reverse env nx H → ∃ cs env' N H',Inv P tab ops B nx0 env0 H0 cs env' N H' ∧ cs.length = ops.size ∧ C cs env' N H'
  | [],acc,env,nx,H,h,ho,hi => ⟨acc.reverse,env,nx,H,hi,by have := congrArg List.length ho; simpa using this.symm,h⟩
  | o :: rest,acc,env,nx,H,h,ho,hi => by
    have hop : ops[acc.reverse.length]? = some o := by
      rw [← Array.getElem?_toList,ho,List.getElem?_append_right (by simp)]
      simp
    have hE : ∀ q x,look (cutE ops o env) q = some x → look env q = some x := fun q x hq => look_sel hq
    have hlen : acc.reverse.length = acc.length := by simp
    have run : ∀ {rN tN p nx' H'},(∀ d b,o.guard = some (d,b) → ∃ t v,(ops[d]?).bind (·.dst) = some t ∧ look (cutE ops o env) t = some (.f (.v v)) ∧ vb v = some b) →
        stepOp P tab (cutE ops o env) nx (sel H rN ++ sel H tN) (fun a b d => a = p ∧ b = nx' ∧ d = H') o.op → nx ≤ nx' → sameH H' (sel H rN) →
        dM P tab ops B rest (⟨o,some p,cutE ops o env,sel H rN,sel H tN,drops H' ((sel H rN).map Prod.fst),nx,nx',B.getD acc.length []⟩ :: acc) (putE o.dst p env) nx'
          (drops H' ((sel H rN).map Prod.fst) ++ drops H ((sel H tN).map Prod.fst)) C → ∃ cs env' N H',Inv P tab ops B nx0 env0 H0 cs env' N H' ∧ cs.length = ops.size ∧ C cs env' N H' := by
      intro rN tN p nx' H' hg hst hle hsame hr
      refine qT rest _ _ _ _ hr (by rw [ho]; simp) ?_
      rw [List.reverse_cons]
      refine hi.snoc hop ?_ rfl rfl hle (fun k => by rw [look_putE]; rfl) (fun n => ?_) hE (fun n ob hn => ?_) (by rw [hlen])
      · have hrun : ∃ q,some p = some q ∧ stepOp P tab (cutE ops o env) nx (sel H rN ++ sel H tN) (fun pv' nx'' H'' => pv' = q ∧ nx'' = nx' ∧
            ∀ n,look H'' n = look (sel H rN ++ drops H' ((sel H rN).map Prod.fst)) n) o.op := by
          refine ⟨p,rfl,sI (fun a b d hd => ?_) hst⟩
          obtain ⟨rfl,rfl,rfl⟩ := hd
          refine ⟨rfl,rfl,fun n => ?_⟩
          rw [cB]
          cases hq : look (sel H rN) n with
          | some ob => simpa [hq] using hsame.get n ob hq
          | none =>
            simp only [dm]
            rw [if_neg (look_none.1 hq)]; rfl
        unfold v9
        split
        · exact hrun
        · rename_i j want hgu
          obtain ⟨t,v,t1,t2,t3⟩ := hg j want hgu
          exact ⟨t,v,t1,t2,fun _ => hrun,fun hne => absurd t3 hne⟩
      · rw [cB,dm,dm]
        simp only [iW,Cert.touches,dm]
        by_cases h1 : n ∈ (sel H rN).map Prod.fst
        · simp only [if_pos h1]
          cases hq : look (sel H tN) n with
          | some ob =>
            have : n ∈ (sel H tN).map Prod.fst := Classical.byContradiction fun hn => by rw [look_none.2 hn] at hq; cases hq
            simp [this]
          | none => simp [look_none.1 hq]
        · simp only [if_neg h1]
          cases hq : look H' n with
          | some ob => simp
          | none =>
            cases hz : look (sel H tN) n with
            | some ob =>
              have : n ∈ (sel H tN).map Prod.fst := Classical.byContradiction fun hn => by rw [look_none.2 hn] at hz; cases hz
              simp [this]
            | none => simp [look_none.1 hz]
      · rw [cB] at hn
        cases hq : look (sel H rN) n with
        | some x => rw [hq] at hn; simp at hn; subst hn; exact look_sel hq
        | none => rw [hq] at hn; simp at hn; exact look_sel hn
    simp only [dM] at h
    split at h
    · rename_i hgu
      obtain ⟨rN,tN,p,nx',H',h1,h2,h3,h4⟩ := h
      exact run (fun d b e => by rw [hgu] at e; cases e) h1 h2 h3 h4
    · rename_i j want hgu
      obtain ⟨d,b,g1,g2,g3,g4⟩ := h
      by_cases hb : vb b = some want
      · obtain ⟨rN,tN,p,nx',H',h1,h2,h3,h4⟩ := g3 hb
        exact run (fun d' b' e => by rw [hgu] at e; cases e; exact ⟨d,b,g1,g2,hb⟩) h1 h2 h3 h4
      · have hr := g4 hb
        refine qT rest _ _ _ _ hr (by rw [ho]; simp) ?_
        rw [List.reverse_cons]
        refine hi.snoc hop ?_ rfl rfl (Nat.le_refl _) (fun k => by rw [look_dropE]; rfl) (fun n => by simp [iW,Cert.touches,look]) hE (fun n ob hn => by simp [look] at hn) (by rw [hlen])
        unfold v9
        simp only [hgu]
        exact ⟨d,b,g1,g2,fun e => absurd e hb,fun _ => by simp⟩
theorem fy {α : Type}{l : List (Nat × α)}{p : Nat × α → Bool} (h : l.all p = true) {n : Nat}{x : α} (hx : look l n = some x) : p (n,x) = true := List.all_eq_true.1 h _ (fx hx)
theorem Ad (ht : TabOk P tab) (hm : P.follows .mixedOrders = true) {id nt : Nat}{Q : cH}{env : aI}{nx : Nat}{H : ah} (hnt : c.nt = nt) (B : List (List Nat)) (hB : uD ops B = true)
    (h : dM P tab ops B ops.toList [] env nx H (fun cs env' N H' => j8 nt nx N env H cs = true ∧ Q .normal env' N H')) : W P c (.region id ops true) env nx H Q := by
  intro φ tmps w hs
  subst hnt
  obtain ⟨cs,env',N,H',hi,hl,hp,hQ⟩ := qT (nx0 := nx) (env0 := env) (H0 := H) ops.toList [] env nx H h (by simp)
    ⟨fun j c h => by simp at h,fun j c h => by simp at h,fun j c h => by simp at h,fun k => rfl,fun k => rfl,fun j c h => by simp at h,fun j c h => by simp at h,fun j c h => by simp at h,Nat.le_refl _⟩
  simp only [j8,Bool.and_eq_true] at hp
  obtain ⟨⟨⟨p1,p2⟩,p3⟩,p4⟩ := hp
  have hcert : ∀ (j : Nat) d,cs[j]? = some d → certB c.nt N d = true := fun j d hj => List.all_eq_true.1 p3 d (List.mem_of_getElem? hj)
  have hpair : ∀ (i j : Nat) a b,cs[i]? = some a → cs[j]? = some b → qA a b i j = true := by
    intro i j a b ha hb
    have h1 := List.all_eq_true.1 p4 (a,i) (List.mem_of_getElem? (i := i) (by rw [List.getElem?_zipIdx,ha]; simp))
    exact List.all_eq_true.1 h1 (b,j) (List.mem_of_getElem? (i := j) (by rw [List.getElem?_zipIdx,hb]; simp))
  have hbef : ∀ (j : Nat) o,ops[j]? = some o → (∀ e ∈ o.after,Region.binds .any e = true → e.on < j) ∧ ∀ i ∈ B.getD j [],∃ e ∈ o.after,Region.binds .any e = true ∧ (i = e.on ∨ i ∈ B.getD e.on []) := by
    intro j o ho
    have hlt : j < ops.size := (Array.getElem?_eq_some_iff.1 ho).1
    have h1 := List.all_eq_true.1 hB j (by simp [hlt])
    rw [ho] at h1
    simp only [Bool.and_eq_true,List.all_eq_true,List.any_eq_true] at h1
    refine ⟨fun e he hb => ?_,fun i hi => ?_⟩
    · have := h1.1 e (by simpa using he)
      simpa [hb] using this
    · obtain ⟨e,e1,e2⟩ := h1.2 i hi
      simp only [Bool.and_eq_true,Bool.or_eq_true,beq_iff_eq,List.contains_iff_mem] at e2
      exact ⟨e,by simpa using e1,e2.1,e2.2⟩
  have pl : Plan P tab c.nt c.k nx N ops env H cs := {
    len := hl
    op := hi.op
    ok := fun j d hj => by
      have hk := hi.ok j d hj
      have hb := hcert j d hj
      simp only [certB,Bool.and_eq_true] at hb
      refine ⟨hb.1.1.1.1.1.1,(hi.mm j d hj).2.1, ?_⟩
      have hrun : (∃ p,d.pv = some p ∧ stepOp P tab d.eS d.M (d.rd ++ d.hS) (fun pv' nx' H' => pv' = p ∧ nx' = d.M' ∧ ∀ n,look H' n = look (d.rd ++ d.hT) n) d.o.op) →
          ∃ p,d.pv = some p ∧ has (fun _ => true) p = true ∧ stepOp P tab d.eS d.M (d.rd ++ d.hS) (fun pv' nx' H' => pv' = p ∧ nx' = d.M' ∧ ∀ n,look H' n = look (d.rd ++ d.hT) n) d.o.op := by
        rintro ⟨p,q1,q2⟩
        have := hb.2
        rw [q1] at this
        exact ⟨p,q1,this,q2⟩
      unfold v9 at hk
      cases hg : d.o.guard with
      | none => rw [hg] at hk; exact hrun hk
      | some q =>
        obtain ⟨jj,want⟩ := q
        rw [hg] at hk
        obtain ⟨t,b,q1,q2,q3,q4⟩ := hk
        exact ⟨t,b,q1,q2,fun e => hrun (q3 e),q4⟩
    names := fun j d hj => ⟨(hi.mm j d hj).1,(hi.mm j d hj).2.2⟩
    k := hs.keep.1
    nx := hi.nx
    envB := fun q x hq => fy p1 hq
    heapB := fun n o hn => by have := fy p2 hn; simpa using this
    readE := fun j d hj q x hq => by
      have hb := hcert j d hj
      simp only [certB,Bool.and_eq_true] at hb
      have := fy hb.1.1.1.1.1.2 hq
      simp only [Bool.and_eq_true,decide_eq_true_eq] at this
      exact ⟨hi.rE j d hj q x hq,this.1,this.2⟩
    readH := fun j d hj n o hn => by
      have hb := hcert j d hj
      simp only [certB,Bool.and_eq_true] at hb
      have := fy hb.1.1.1.1.2 hn
      simp only [Bool.and_eq_true,decide_eq_true_eq] at this
      exact ⟨hi.rH j d hj n o hn,this.1,this.2⟩
    fresh := fun j d hj n o hn => by
      have hb := hcert j d hj
      simp only [certB,Bool.and_eq_true] at hb
      have := fy hb.1.1.1.2 hn
      simpa using this
    apart := fun j d hj n o hn => by
      have hb := hcert j d hj
      simp only [certB,Bool.and_eq_true] at hb
      have := fy hb.1.1.2 hn
      simpa using this
    okT := fun j d hj n o hn => by
      have hb := hcert j d hj
      simp only [certB,Bool.and_eq_true] at hb
      have := fy hb.1.2 hn
      simpa using this
    back := fun j d hj => (hbef j d.o (hi.op j d hj)).1
    edge := fun j d hj i hib => by
      rw [hi.bef j d hj] at hib
      obtain ⟨e,e1,e2,e3⟩ := (hbef j d.o (hi.op j d hj)).2 i hib
      refine ⟨e,e1,e2, ?_⟩
      rcases e3 with e3|e3
      · exact .inl e3
      · have hlt : e.on < cs.length := by
          have := (hbef j d.o (hi.op j d hj)).1 e e1 e2
          have := (List.getElem?_eq_some_iff.1 hj).1
          omega
        exact .inr ⟨cs[e.on],by simp [hlt],by rw [hi.bef e.on _ (by simp [hlt])]; exact e3⟩
    order := fun i j a b ha hb hne hmt => by
      have := hpair i j a b ha hb
      simp only [qA,Bool.or_eq_true,beq_iff_eq,Bool.and_eq_true,decide_eq_true_eq,List.contains_iff_mem] at this
      have hmB : uo a b = true := by
        unfold uo
        rcases hmt with ⟨k,k1,k2⟩|⟨n,n1,n2⟩
        · rw [k1]
          rcases k2 with k2|k2
          · simp [k2]
          · simp [k2]
        · have hmem : n ∈ (a.hS ++ a.hT).map Prod.fst := by
            simp only [Cert.touches,Bool.or_eq_true] at n1
            rw [List.map_append,List.mem_append]
            rcases n1 with n1|n1
            · exact .inl (Classical.byContradiction fun hn => by rw [look_none.2 hn] at n1; cases n1)
            · exact .inr (Classical.byContradiction fun hn => by rw [look_none.2 hn] at n1; cases n1)
          obtain ⟨p,q1,q2⟩ := List.mem_map.1 hmem
          have : ((a.hS ++ a.hT).any fun p => b.touches p.1 || (look b.rd p.1).isSome) = true := List.any_eq_true.2 ⟨p,q1,by rw [q2]; simpa using n2⟩
          rw [this]; simp
      rcases this with h1|⟨h1,_⟩
      · exact absurd h1 hne
      · rcases h1 with (h1|h1)|h1
        · rw [hmB] at h1; cases h1
        · exact .inl h1
        · exact .inr h1
    mention := fun i j a b ha hb hne hns => by
      have := hpair i j a b ha hb
      simp only [qA,Bool.or_eq_true,beq_iff_eq,Bool.and_eq_true,decide_eq_true_eq,List.contains_iff_mem] at this
      rcases this with h1|⟨_,h1⟩
      · exact absurd h1 hne
      · rcases h1 with h1|h1
        · refine absurd ?_ hns
          simp only [ta,Bool.and_eq_true] at h1
          refine ⟨fun x hx => by have := h1.1; rw [hx] at this; exact this,fun n o hn => by have := fy h1.2 hn; simpa using this⟩
        · exact h1 }
  have hdst : ∀ (cs' : List Cert),(∀ d ∈ cs',dstOk c.nt d.o.dst = true) → ∀ k x,fE env cs' k = some x → k < c.nt := by
    intro cs' hd k x
    have h0 : ∀ k x,look env k = some x → k < c.nt := by
      intro k x hk
      obtain ⟨v,v1,_⟩ := hs.env k x hk
      rw [← hs.size]; exact (Array.getElem?_eq_some_iff.1 v1).1
    have gen : ∀ (cs' : List Cert) (f : Nat → Option PV),(∀ k x,f k = some x → k < c.nt) → (∀ d ∈ cs',dstOk c.nt d.o.dst = true) → ∀ k x,(cs'.foldl (fun f c => jP c f) f) k = some x → k < c.nt := by
      intro cs'
      induction cs' with
      | nil => intro f hf _ k x hk; exact hf k x hk
      | cons d t ih =>
        intro f hf hd k x hk
        refine ih _ (fun k x hk => ?_) (fun d' hd' => hd d' (List.mem_cons_of_mem _ hd')) k x hk
        simp only [jP] at hk
        split at hk
        · rename_i e
          have := hd d (by simp)
          rw [e] at this
          simpa [dstOk] using this
        · exact hf k x hk
    exact gen cs' _ h0 hd k x
  have hname : ∀ n o,fH H cs n = some o → n < N := by
    intro n o
    have gen : ∀ (cs' : List Cert) (f : Nat → Option Obj),(∀ k x,f k = some x → k < N) → (∀ d ∈ cs',certB c.nt N d = true) → ∀ k x,(cs'.foldl (fun f c => iW c f) f) k = some x → k < N := by
      intro cs'
      induction cs' with
      | nil => intro f hf _ k x hk; exact hf k x hk
      | cons d t ih =>
        intro f hf hd k x hk
        refine ih _ (fun k x hk => ?_) (fun d' hd' => hd d' (List.mem_cons_of_mem _ hd')) k x hk
        simp only [iW] at hk
        split at hk
        · have hb := hd d (by simp)
          simp only [certB,Bool.and_eq_true] at hb
          have h12 := hb.1.2
          rw [List.all_append,Bool.and_eq_true] at h12
          have := fy h12.2 hk
          simp only [Bool.and_eq_true,decide_eq_true_eq] at this
          exact this.2
        · exact hf k x hk
    refine gen cs _ (fun k x hk => ?_) (fun d hd => List.all_eq_true.1 p3 d hd) n o
    have := fy p2 hk
    simp only [Bool.and_eq_true,decide_eq_true_eq] at this
    exact Nat.lt_of_lt_of_le this.1 hi.nx
  refine BE ht hm pl (envF := env') (HF := H') (fun k x hk => ?_) (fun n o hn => ?_) hQ φ tmps w hs
  · rw [hi.envq] at hk
    refine ⟨hk,hdst cs (fun d hd => ?_) k x hk⟩
    have hb := List.all_eq_true.1 p3 d hd
    simp only [certB,Bool.and_eq_true] at hb
    exact hb.1.1.1.1.1.1
  · rw [hi.hq] at hn
    exact ⟨hn,hname n o hn⟩
def lh (P : Program) (tab : bR) (ops : Array Oper) (B : List (List Nat)) (o : Oper) (rest : List Oper) (acc : List Cert) (env : aI) (nx : Nat) (H : ah) (C : List Cert → aI → Nat → ah → Prop) : Prop :=
  ∃ rN tN p nx' H',stepOp P tab (cutE ops o env) nx (sel H rN ++ sel H tN) (fun a b d => a = p ∧ b = nx' ∧ d = H') o.op ∧ nx ≤ nx' ∧ sameH H' (sel H rN) ∧
      dM P tab ops B rest (⟨o,some p,cutE ops o env,sel H rN,sel H tN,drops H' ((sel H rN).map Prod.fst),nx,nx',B.getD acc.length []⟩ :: acc) (putE o.dst p env) nx'
        (drops H' ((sel H rN).map Prod.fst) ++ drops H ((sel H tN).map Prod.fst)) C
section
variable {rest : List Oper}{acc : List Cert}{env : aI}{nx : Nat}{H : ah}{C : List Cert → aI → Nat → ah → Prop}{dst : Option Nat}{op : Op}{t : Nat}{p : String}{a : Array Edge}
theorem CB (h : lh P tab ops B ⟨dst,op,t,p,a,none⟩ rest acc env nx H C) : dM P tab ops B (⟨dst,op,t,p,a,none⟩ :: rest) acc env nx H C := h
theorem CC {j d : Nat}{want b : Bool} (hj : (ops[j]?).bind (·.dst) = some d) (hb : look (cutE ops ⟨dst,op,t,p,a,some (j,want)⟩ env) d = some (.f (.v (.bool b))))
    (h1 : b = want → lh P tab ops B ⟨dst,op,t,p,a,some (j,want)⟩ rest acc env nx H C)
    (h2 : b = (!want) → dM P tab ops B rest (⟨⟨dst,op,t,p,a,some (j,want)⟩,some aZ,cutE ops ⟨dst,op,t,p,a,some (j,want)⟩ env,[],[],[],nx,nx,B.getD acc.length []⟩ :: acc) (fQ dst env) nx H C) :
    dM P tab ops B (⟨dst,op,t,p,a,some (j,want)⟩ :: rest) acc env nx H C :=
  ⟨d,.bool b,hj,hb,fun e => h1 (by simpa [vb] using e),fun e => h2 (by cases b <;> cases want <;> simp_all [vb])⟩
theorem Cd (h : C acc.reverse env nx H) : dM P tab ops B [] acc env nx H C := h
end
end
def gp (l : List UInt8) : ByteArray := ⟨l.toArray⟩
theorem nQ (l : List UInt8) : (gp l).size = l.length := by simp [gp,ByteArray.size]
theorem sF (ns : List UInt8) : ∀ (b : ByteArray),(ns.map fun n => (n.toNat : Int)).foldl (fun r n => r.push (UInt8.ofNat n.toNat)) b = ⟨(b.data.toList ++ ns).toArray⟩ := by
  induction ns with
  | nil => intro b; cases b; simp
  | cons x t ih =>
    intro b
    rw [List.map_cons,List.foldl_cons,ih]
    have : UInt8.ofNat ((x.toNat : Int)).toNat = x := by simp
    rw [this]
    cases b; simp [ByteArray.push]
theorem wQ (l : List UInt8) : lS (l.map fun n => (n.toNat : Int)) = gp l := by
  unfold lS; rw [sF]; rfl
theorem xK (l : List UInt8) : fW (l.map fun n => (n.toNat : Int)) = mt l := by simp [fW,mt]
theorem nP (a b : ByteArray) : (a.toList == b.toList) = decide (a.data.toList = b.data.toList) := by
  rw [ByteArray.toList_eq,ByteArray.toList_eq]
  by_cases h : a.data.toList = b.data.toList
  · simp [h]
  · rw [decide_eq_false h]; simpa using h
theorem le_of_eq {x y : PV} (h : x = y) : PV.le x y := by subst h; exact fun _ _ _ _ _ h => h
section
variable {P : Program}{tab : bR}{c : Ctx}{nx : Nat}{env : aI}{H : ah}{K : PV → Nat → ah → Prop}{t u : Nat}{x y : Operand}
theorem yO {s e : Nat}{is it ie : TI}{l : List UInt8} (h1 : tab s = some is) (h2 : tab t = some it) (h3 : is.kd = .slice e) (h4 : tab e = some ie) (h5 : ie.kd = .int .u8) (h6 : it.kd = .str) (h7 : Holds env H x 1 (mt l))
    (h : K (.f (.v (.string (gp l)))) nx H) : stepOp P tab env nx H K (.convert s t x) := Bd (ns := l.map fun n => (n.toNat : Int)) h1 h2 h3 h4 h5 h6 (by rw [xK]; exact h7) (by rw [wQ]; exact h)
theorem wY {l m : List UInt8} (h1 : ev env x = some (.f (.v (.string (gp l))))) (h2 : ev env y = some (.f (.v (.string (gp m))))) (h : K (.f (.v (.bool (decide (l = m))))) nx H) : stepOp P tab env nx H K (.binOp .eql t x y u) :=
  yX h1 h2 (by rw [nP]; exact h)
theorem wV {l m : List UInt8} (h1 : ev env x = some (.f (.v (.string (gp l))))) (h2 : ev env y = some (.f (.v (.string (gp m))))) (h : K (.f (.v (.bool (!decide (l = m))))) nx H) : stepOp P tab env nx H K (.binOp .neq t x y u) :=
  yR h1 h2 (by rw [nP]; exact h)
def isF : PV → Bool
  | .f _ => true
  | _ => false
theorem rM : ∀ {ps : List PV},ps.all isF = true → passes [] H ps = (ps,H)
  | [],_ => rfl
  | x :: t,h => by
    simp only [List.all_cons,Bool.and_eq_true] at h
    cases x with
    | f y =>
      simp only [passes,has,has2,has1,if_true]
      rw [rM h.2]
    | _ => simp [isF] at h
theorem yZ {f : Operand}{args : Array Operand}{ts : Array Nat}{g : Nat}{ps : List PV}{r : PV} (h1 : ev env f = some (.clo (.func g) [])) (h2 : evs env args.toList = some ps) (h3 : ps.all isF = true) (ht : T P g ps 0 [] (Ret r 0 []))
    (hr : has (fun _ => false) r = true) (h : K r nx H) : stepOp P tab env nx H K (.call { callee := .value f,args := args,argTypes := ts }) := by
  refine Bl (ps' := ps) (H' := H) h1 h2 (by rw [allArgs,List.append_nil]; exact rM h3) ?_ ht hr h
  rw [List.all_eq_true] at h3 ⊢
  intro x hx
  have := h3 x hx
  cases x <;> simp [isF] at this <;> rfl
end
abbrev Noone : Nat → Nat → Prop := fun _ _ => False
def ou (P : Program) (t : TypeId) (α : Type) (f : α → FV) (R : (H : Type) → α → DataW H → Prop) : Prop :=
  ∀ (H : Type) (enc : TypeId × Value → H) (w : World) (base : Nat) (held : Bool) (fuel : Nat) (cs : List Value) (d : DataW H) (ps : List MemPlace),DataW.trod enc P w base (fun _ => true) held fuel t cs = some (d,ps) →
    ∃ a,R H a d ∧ (f a).cells.length = cs.length ∧ ∀ (j : Nat) c u,(f a).cells[j]? = some c → cs[j]? = some u → RepF w Noone c u ∧ one u = true
theorem vh {P : Program}{t : TypeId}{k : IntKind} (ht : P.underlying t = some (.int k)) : ou P t { n : Int // (Lit.int k n).wf = true } (fun n => .v (.int k n.1)) (fun _ n d => d = .lit (.int k n.1)) := by
  intro H enc w base held fuel cs d ps h
  obtain ⟨n,rfl,hx,hw⟩ := DataW.trod_int ht h
  cases hx
  refine ⟨⟨n,hw⟩,rfl,rfl,fun j c u hc hu => ?_⟩
  cases j with
  | zero => simp [FV.cells] at hc hu; subst hc; subst hu; exact ⟨.v _,rfl⟩
  | succ j => simp [FV.cells] at hc
def Bb {α : Type} (R : (H : Type) → α → DataW H → Prop) (H : Type) (l : List α) (d : DataW H) : Prop :=
  (d = .nil ∧ l = []) ∨ ∃ es sp,d = .slice es sp ∧ es.length = l.length ∧ ∀ (i : Nat) a e,l[i]? = some a → es[i]? = some e → R H a e
theorem sQ {P : Program}{t e : TypeId}{α : Type}{f : α → FV}{R : (H : Type) → α → DataW H → Prop} (ht : P.underlying t = some (.slice e)) (he : ou P e α f R) (n : Nat) (hn : P.cellsOf e = n) (hpos : 0 < n) :
    ou P t (List α) (fun l => .sl n false (l.map f)) (Bb R) := by
  intro H enc w base held fuel cs d ps h
  subst hn
  rcases DataW.trod_slice ht h with ⟨rfl,hx⟩|⟨a,len,cap,elems,rest,m,rfl,rfl,hx,hb,hl,hm,hlen,hel,hsp,_⟩
  · cases hx
    refine ⟨[],.inl ⟨rfl,rfl⟩,rfl,fun j c u hc hu => ?_⟩
    cases j with
    | zero => simp [FV.cells] at hc hu; subst hc; subst hu; exact ⟨.slnil _ _,rfl⟩
    | succ j => simp [FV.cells] at hc
  · cases hx
    have hlt : ∀ i,i < len → ∃ (cs : List Value) (x : DataW H × List MemPlace),w.cells? base (a.add (i * P.cellsOf e)) (P.cellsOf e) = some cs ∧ DataW.trod enc P w base (fun _ => true) held m e cs = some x ∧ elems[i]? = some x := by
      intro i hi
      have h1 := hel i hi
      have h2 : elems[i]? = some (elems[i]'(by omega)) := by simp [hlen,hi]
      rw [h2,Option.bind_eq_some_iff] at h1
      obtain ⟨cs,c1,c2⟩ := h1
      exact ⟨cs,_,c1,c2,h2⟩
    have hval : ∀ i,i < len → ∃ (cs : List Value) (d : DataW H) (al : α),w.cells? base (a.add (i * P.cellsOf e)) (P.cellsOf e) = some cs ∧ (elems.map (·.1))[i]? = some d ∧ R H al d ∧ (f al).cells.length = cs.length ∧
        ∀ (j : Nat) c u,(f al).cells[j]? = some c → cs[j]? = some u → RepF w Noone c u ∧ one u = true := by
      intro i hi
      obtain ⟨cs,⟨d,ps⟩,c1,c2,c3⟩ := hlt i hi
      obtain ⟨al,a1,a2,a3⟩ := he H enc w base held m cs d ps c2
      exact ⟨cs,d,al,c1,by simp [c3],a1,a2,a3⟩
    have hlist : ∀ k,k ≤ len → ∃ l : List α,l.length = k ∧ ∀ (i : Nat) al,l[i]? = some al → ∃ (cs : List Value) (d : DataW H),w.cells? base (a.add (i * P.cellsOf e)) (P.cellsOf e) = some cs ∧ (elems.map (·.1))[i]? = some d ∧ R H al d ∧ (f al).cells.length = cs.length ∧
        ∀ (j : Nat) c u,(f al).cells[j]? = some c → cs[j]? = some u → RepF w Noone c u ∧ one u = true := by
      intro k
      induction k with
      | zero => intro _; exact ⟨[],rfl,fun i al h => by simp at h⟩
      | succ k ih =>
        intro hk
        obtain ⟨l,l1,l2⟩ := ih (by omega)
        obtain ⟨cs,d,al,c1,c2,c3,c4,c5⟩ := hval k (by omega)
        refine ⟨l ++ [al],by simp [l1],fun i al' h => ?_⟩
        rw [List.getElem?_append] at h
        split at h
        · exact l2 i al' h
        · rename_i hge
          have : i = k := by
            have := (List.getElem?_eq_some_iff.1 h).1
            simp at this; omega
          subst this
          simp [l1] at h
          subst h
          exact ⟨cs,d,c1,c2,c3,c4,c5⟩
    obtain ⟨l,l1,l2⟩ := hlist len (Nat.le_refl _)
    refine ⟨l,.inr ⟨_,_,rfl,by simp [l1,hlen],fun i al d' h1 h2 => ?_⟩,rfl,fun j c u hc hu => ?_⟩
    · obtain ⟨cs,d,_,g2,g3,_⟩ := l2 i al h1
      rw [h2] at g2; cases g2; exact g3
    · cases j with
      | succ j => simp [FV.cells] at hc
      | zero =>
        simp [FV.cells] at hc hu
        subst hc; subst hu
        refine ⟨?_,rfl⟩
        by_cases hcap : cap = 0
        · subst hcap
          have : len = 0 := by omega
          subst this
          have hl0 : l = [] := List.length_eq_zero_iff.1 l1
          subst hl0
          exact .slemp _ _ a
        · have hspot : a.spot = none := by
            have h0 : ∃ cs,w.cells? base a (P.cellsOf e) = some cs := by
              by_cases hl0 : 0 < len
              · obtain ⟨cs,_,c1,_⟩ := hlt 0 hl0
                simp only [Nat.zero_mul,Addr.add,if_true] at c1
                exact ⟨cs,c1⟩
              · have hlen0 : len = 0 := by omega
                obtain ⟨q1,q2⟩ := hsp rfl
                have q3 := q2 0 (by omega)
                have q4 : rest[0]? = some (rest[0]'(by omega)) := List.getElem?_eq_getElem _
                rw [q4,Option.bind_eq_some_iff] at q3
                obtain ⟨cs,c1,_⟩ := q3
                rw [hlen0] at c1
                simp only [Nat.add_zero,Nat.zero_mul,Addr.add,if_true] at c1
                exact ⟨cs,c1⟩
            obtain ⟨cs,c1⟩ := h0
            obtain ⟨_,k2,k3⟩ := World.cells?_some c1
            have k4 := k3 0 hpos
            simp only [Addr.add,if_true] at k4
            have k5 : cs[0]? = some (cs[0]'(by omega)) := by simp
            rw [k5] at k4
            unfold World.cell? at k4
            split at k4
            · split at k4
              · cases k4
              · rename_i hs; simpa using hs
            · cases k4
          obtain ⟨ab,ao,asp⟩ := a
          simp only at hspot
          subst hspot
          have hll : (l.map f).length = len := by simp [l1]
          have hadd : ∀ (ao k : Nat),(⟨ab,ao,none⟩ : Addr).add k = ⟨ab,ao + k,none⟩ := by
            intro ao k; unfold Addr.add; split
            · rename_i h0; subst h0; rfl
            · rfl
          have main : ∀ (i : Nat) x (j : Nat) c,(l.map f)[i]? = some x → x.cells[j]? = some c → ∃ u,w.cell? ⟨ab,ao + i * P.cellsOf e + j,none⟩ = some u ∧ one u = true ∧ RepF w Noone c u ∧ x.cells.length = P.cellsOf e := by
            intro i x j c hx hc
            simp only [List.getElem?_map,Option.map_eq_some_iff] at hx
            obtain ⟨al,x1,rfl⟩ := hx
            obtain ⟨cs,d,g1,_,_,g4,g5⟩ := l2 i al x1
            obtain ⟨_,k2,k3⟩ := World.cells?_some g1
            have hj : j < cs.length := by rw [← g4]; exact (List.getElem?_eq_some_iff.1 hc).1
            have k4 := k3 j (by omega)
            rw [hadd,hadd] at k4
            have k5 : cs[j]? = some (cs[j]'hj) := by simp
            obtain ⟨r1,r2⟩ := g5 j c _ hc k5
            exact ⟨cs[j],by rw [k4]; exact k5,r2,r1,by omega⟩
          rw [← hll]
          refine .sl _ _ _ _ _ _ (fun i j => (w.cell? ⟨ab,ao + i * P.cellsOf e + j,none⟩).getD undef) (by rw [hll]; exact hl) (fun e => by cases e) (fun i x hx => ?_) (fun i x j c hx hc => ?_) (fun i x j c hx hc => ?_)
          · simp only [List.getElem?_map,Option.map_eq_some_iff] at hx
            obtain ⟨al,x1,rfl⟩ := hx
            obtain ⟨cs,d,g1,_,_,g4,_⟩ := l2 i al x1
            rw [g4]; exact (World.cells?_some g1).2.1
          · obtain ⟨u,u1,u2,u3,_⟩ := main i x j c hx hc
            rw [u1]; exact ⟨rfl,fun h => h,u2⟩
          · obtain ⟨u,u1,u2,u3,_⟩ := main i x j c hx hc
            rw [u1]; exact u3
abbrev φ00 : Nat → Phys := fun _ => default
theorem T.calls {P : Program}{g : Nat}{args : List PV}{x : Value} (h : T P g args 0 [] (Ret (.f (.v x)) 0 [])) {w : World}{vals : Array Value} (hl : vals.size = args.length)
    (hr : ∀ (i : Nat) a v,args[i]? = some a → vals[i]? = some v → Rep φ00 0 w Noone a v) : Calls P g vals w fun e w' => e = .returned x ∧ RowKit.Below w.heap.size w w' := by
  have hSS : SS Noone φ00 [] = Noone := by
    funext b off; apply propext; constructor
    · rintro (h|⟨n,o,h,_⟩)
      · exact h
      · simp [look] at h
    · intro h; exact h.elim
  have hOwn : ∀ b off,¬ Own φ00 [] b off := by rintro b off ⟨n,o,h,_⟩; simp [look] at h
  refine (h.2 w φ00 Noone vals (fun _ _ h => h.elim) ⟨fun n o h => by simp [look] at h,fun n m o o' h => by simp [look] at h,fun n o h => by simp [look] at h⟩ hl (fun i a v h1 h2 => by rw [hSS]; exact hr i a v h1 h2)).mono ?_
  rintro e w' ⟨r,k',H',φ',v,rfl,⟨rfl,rfl,rfl⟩,_,hrep,hext,_,_⟩
  exact ⟨by rw [hrep.v_inv],⟨hext.os,hext.tape,hext.output,hext.size,fun k hk => hext.blk k hk fun off => hOwn k off⟩⟩
def Fits (w : World) : List PV → List Value → Prop
  | [],[] => True
  | a :: t,v :: u => Rep φ00 0 w Noone a v ∧ Fits w t u
  | _,_ => False
theorem Fits.get {w : World} : ∀ {qs : List PV}{vs : List Value},Fits w qs vs → vs.length = qs.length ∧ ∀ (i : Nat) a v,qs[i]? = some a → vs[i]? = some v → Rep φ00 0 w Noone a v
  | [],[],_ => ⟨rfl,fun i a v h => by simp at h⟩
  | [],_ :: _,h => h.elim
  | _ :: _,[],h => h.elim
  | a :: t,v :: u,h => by
    obtain ⟨k1,k2⟩ := Fits.get h.2
    refine ⟨by simp [k1],fun i b x hb hx => ?_⟩
    cases i with
    | zero => simp at hb hx; subst hb; subst hx; exact h.1
    | succ i => exact k2 i b x (by simpa using hb) (by simpa using hx)
theorem T.row {P : Program}{g : Nat}{args : List PV}{x : Value} (h : T P g args 0 [] (Ret (.f (.v x)) 0 [])) {w : World}{vals : List Value} (hf : Fits w args vals) : Calls P g vals.toArray w fun e w' => e = .returned x ∧ RowKit.Below w.heap.size w w' :=
  h.calls (by simpa using hf.get.1) fun i a v h1 h2 => hf.get.2 i a v h1 (by simpa using h2)
theorem uK {n : Int} (h : (Lit.int .i64 n).wf = true) : -9223372036854775808 ≤ n ∧ n ≤ 9223372036854775807 := by
  simp [Lit.wf,IntKind.min,IntKind.max,IntKind.signed,IntKind.bits] at h
  omega
abbrev az (b : UInt8) : FV := .v (.int .u8 (b.toNat : Nat))
abbrev aj (b : UInt16) : FV := .v (.int .u16 (b.toNat : Nat))
abbrev ay (x : Int) : FV := .v (.int .i64 x)
abbrev ar (b : Bool) : FV := .v (.bool b)
abbrev jX {α : Type} (sz : Nat) (f : α → FV) (l : List α) : FV := .sl sz false (l.map f)
abbrev pI (x : Int) : PV := .f (.v (.int .i64 x))
abbrev pN (x : Nat) : PV := .f (.v (.int .i64 ((x : Nat) : Int)))
abbrev pB (b : Bool) : PV := .f (.v (.bool b))
abbrev p8 (b : UInt8) : PV := .f (.v (.int .u8 (b.toNat : Nat)))
abbrev au (b : UInt16) : PV := .f (.v (.int .u16 (b.toNat : Nat)))
abbrev pK (k : IntKind) (x : Int) : PV := .f (.v (.int k x))
abbrev pT (l : List UInt8) : PV := .f (.v (.string (gp l)))
abbrev pS {α : Type} (sz : Nat) (cl : Bool) (f : α → FV) (l : List α) : PV := .f (.sl sz cl (l.map f))
abbrev aH : PV := .f (.v (.slice none 0 0))
abbrev oB {α : Type} (wr : Bool) (sz : Nat) (f : α → FV) (l : List α) : Obj := .buf wr sz (l.map f)
theorem q9 {α β : Type} (f : α → β) (lo : Nat) (hi : Option Nat) (l : List α) : view lo hi (l.map f) = (view lo hi l).map f := by cases hi <;> simp [view]
theorem bl {α : Type} (l : List α) {i : Nat} (h : i < l.length) : ∃ y,l[i]? = some y := ⟨l[i],by simp [h]⟩
theorem oc {α : Type}{l : List α}{i : Nat}{y : α} (h : l[i]? = some y) : i < l.length := (List.getElem?_eq_some_iff.1 h).1
theorem n7 {α β : Type}{f : α → β}{l : List α}{i : Nat}{y : α} (h : l[i]? = some y) : (l.map f)[i]? = some (f y) := by simp [h]
def bz (a : Int) : UInt8 := UInt8.ofNat (a % 256).toNat
def bV (a : Int) : UInt16 := UInt16.ofNat (a % 65536).toNat
theorem pz (a : Int) : ((bz a).toNat : Int) = a % 256 := by
  unfold bz
  have : (UInt8.ofNat (a % 256).toNat).toNat = (a % 256).toNat % 256 := by simp
  rw [this]; omega
theorem tV (a : Int) : ((bV a).toNat : Int) = a % 65536 := by
  unfold bV
  have : (UInt16.ofNat (a % 65536).toNat).toNat = (a % 65536).toNat % 65536 := by simp
  rw [this]; omega
section
variable {P : Program}{tab : bR}{c : Ctx}{nx : Nat}{env : aI}{H H' : ah}{K : PV → Nat → ah → Prop}{t u : Nat}{x y : Operand}{α : Type}{f : α → FV}
theorem cf {sz : Nat}{cl : Bool}{l : List α} (h : ev env x = some (.f (.sl sz cl (l.map f)))) : Holds env H x sz (l.map f) := xB h
theorem ct {sz n : Nat}{wr : Bool}{m : List α} (h : ev env x = some (.ref n 0 none)) (h2 : look H n = some (.buf wr sz (m.map f))) : Holds env H x sz (m.map f) := vC h h2 (by simp [view])
theorem ca {e sz : Nat}{i : TI}{l : List α} (h1 : tab t = some i) (h2 : i.kd = .slice e) (h3 : Holds env H x sz (l.map f)) (h : K (pN l.length) nx H) :
    stepOp P tab env nx H K (.call { callee := .builtin .len,args := #[x],argTypes := #[t] }) := B3 h1 h2 h3 (by rw [List.length_map]; exact h)
theorem Bj {i : TI}{l : List UInt8} (h1 : tab t = some i) (h2 : i.kd = .str) (h3 : ev env x = some (.f (.v (.string (gp l))))) (h : K (pN l.length) nx H) :
    stepOp P tab env nx H K (.call { callee := .builtin .len,args := #[x],argTypes := #[t] }) := u4 h1 h2 h3 (by rw [nQ]; exact h)
section
variable {e : Nat}{lo hi : Option Operand}{p m : Operand}{i ie : TI}{cl : Bool}{l : List α}{a b sz : Nat}
theorem rF (h1 : tab t = some i) (h2 : i.kd = .slice e) (h3 : tab e = some ie) (hz : ie.size = sz ∧ sz ≠ 0) (h4 : ev env x = some (.f (.sl sz cl (l.map f)))) (h5 : du env lo 0 a) (h6 : du env (some p) l.length b) (h7 : a ≤ b ∧ b ≤ l.length)
    (h : K (pS sz false f ((l.take b).drop a)) nx H) : stepOp P tab env nx H K (.slice t x lo (some p) none) :=
  nV h1 h2 h3 (by rw [hz.1]; exact hz.2) (by rw [hz.1]; exact h4) h5 (by rw [List.length_map]; exact h6) (by rw [List.length_map]; exact h7) (by rw [hz.1,← List.map_take,← List.map_drop]; exact h)
theorem j7 (h1 : tab t = some i) (h2 : i.kd = .slice e) (h3 : tab e = some ie) (hz : ie.size = sz ∧ sz ≠ 0) (h4 : ev env x = some (.f (.sl sz cl (l.map f)))) (h6 : du env (some p) l.length b) (h7 : b ≤ l.length)
    (h : K (pS sz false f (l.take b)) nx H) : stepOp P tab env nx H K (.slice t x none (some p) none) :=
  rF (a := 0) h1 h2 h3 hz h4 lq h6 ⟨Nat.zero_le _,h7⟩ (by rw [List.drop_zero]; exact h)
theorem gl (h1 : tab t = some i) (h2 : i.kd = .slice e) (h3 : tab e = some ie) (hz : ie.size = sz ∧ sz ≠ 0) (h4 : ev env x = some (.f (.sl sz cl (l.map f)))) (h5 : du env lo 0 a) (h7 : a ≤ l.length)
    (h : K (pS sz cl f (l.drop a)) nx H) : stepOp P tab env nx H K (.slice t x lo none none) :=
  nV h1 h2 h3 (by rw [hz.1]; exact hz.2) (by rw [hz.1]; exact h4) h5 (b := l.length) (by rw [List.length_map]; exact lq) (by rw [List.length_map]; exact ⟨h7,Nat.le_refl _⟩) (by
    rw [hz.1,List.take_of_length_le (by simp),← List.map_drop]; exact h)
theorem kC (h1 : tab t = some i) (h2 : i.kd = .slice e) (h3 : tab e = some ie) (hz : ie.size = sz ∧ sz ≠ 0) (h4 : ev env x = some (.f (.sl sz cl (l.map f)))) (h6 : du env (some p) l.length l.length) (h8 : du env (some m) 0 l.length)
    (h : K (pS sz true f l) nx H) : stepOp P tab env nx H K (.slice t x none (some p) (some m)) :=
  sJ (a := 0) (b := l.length) h1 h2 h3 (by rw [hz.1]; exact hz.2) (by rw [hz.1]; exact h4) lq (by rw [List.length_map]; exact h6) h8 ⟨Nat.zero_le _,by rw [List.length_map]; exact Nat.le_refl _⟩ (by
    rw [hz.1,List.take_of_length_le (by simp),List.drop_zero]; exact h)
end
section
variable {e : Nat}{ix : Operand}{i ie : TI}{k : IntKind}{cl wr : Bool}{l : List α}{b : α}{q n lo sz : Nat}{qi : Int}
theorem cA (h1 : tab t = some i) (h2 : i.kd = .slice e) (h3 : tab e = some ie) (hz : ie.size = sz) (h4 : ev env ix = some (.f (.v (.int k qi)))) (hq : qi = (q : Nat)) (h5 : ev env x = some (.f (.sl sz cl (l.map f)))) (h7 : l[q]? = some b) (h : K (.f (.ro (f b))) nx H) :
    stepOp P tab env nx H K (.indexAddr t x ix) := yW h1 h2 h3 h4 (by rw [hz]; exact h5) (by omega) (by rw [hq,Int.toNat_natCast]; exact n7 h7) h
theorem B4 (h1 : tab t = some i) (h2 : i.kd = .slice e) (h3 : tab e = some ie) (hz : ie.size = sz) (h4 : ev env ix = some (.f (.v (.int k qi)))) (hq : qi = (q : Nat)) (h5 : ev env x = some (.ref n lo none)) (h5' : look H n = some (.buf wr sz (l.map f)))
    (h7 : lo + q < l.length) (h : K (.ep n (lo + q) 0) nx H) : stepOp P tab env nx H K (.indexAddr t x ix) := by
  have e : qi.toNat = q := by omega
  exact wW h1 h2 h3 h4 h5 (by rw [hz]; exact h5') (by omega) (by rw [q9,List.length_map,e]; simp [view]; omega) (by rw [e]; exact h)
theorem fg (h1 : tab t = some i) (h2 : i.kd = .slice e) (h3 : tab e = some ie) (hz : ie.size = sz) (h4 : ev env ix = some (.f (.v (.int k qi)))) (hq : qi = (q : Nat)) (h5 : ev env x = some (.ref n 0 none)) (h5' : look H n = some (.buf wr sz (l.map f)))
    (h7 : q < l.length) (h : K (.ep n q 0) nx H) : stepOp P tab env nx H K (.indexAddr t x ix) := B4 h1 h2 h3 hz h4 hq h5 h5' (by omega) (by rw [Nat.zero_add]; exact h)
theorem dv {off m : Nat} (h1 : tab t = some i) (h2 : i.kd = .arr m e) (h3 : tab e = some ie) (h4 : ev env ix = some (.f (.v (.int k qi)))) (hq : qi = (q : Nat)) (h5 : ev env x = some (.ptr n off)) (h7 : q < m) (h : K (.ptr n (off + q * ie.size)) nx H) : stepOp P tab env nx H K (.indexAddr t x ix) :=
  wX h1 h2 h3 h4 h5 (by omega) (by omega) (by rw [show qi.toNat = q by omega]; exact h)
theorem Bk {s : List UInt8}{b : UInt8} (h1 : tab t = some i) (h2 : i.kd = .str) (h3 : ev env ix = some (.f (.v (.int k qi)))) (hq : qi = (q : Nat)) (h4 : ev env x = some (.f (.v (.string (gp s))))) (h6 : s[q]? = some b) (h : K (p8 b) nx H) :
    stepOp P tab env nx H K (.index t x ix) := yV h1 h2 h3 h4 (by omega) (by
      have e : qi.toNat = q := by omega
      rw [e]
      have h9 : q < (gp s).size := by rw [nQ]; exact oc h6
      rw [getElem?_pos (gp s) q h9]
      obtain ⟨hl,h⟩ := List.getElem?_eq_some_iff.1 h6
      rw [← h]; rfl) h
theorem hU {j off : Nat}{z : FV} (h1 : tab t = some i) (h2 : i.kd.agg = false) (hs : i.size = 1) (h3 : ev env x = some (.ep n j off)) (h4 : look H n = some (.buf wr sz (l.map f))) (h5 : l[j]? = some b)
    (h6 : (f b).cells[off]? = some z) (h : K (.f z) nx H) : stepOp P tab env nx H K (.load t x) := ue h1 h2 hs h3 h4 (n7 h5) h6 h
theorem ya {j : Nat}{cs : List FV} (h1 : tab t = some i) (h2 : i.kd.agg = true) (h3 : ev env x = some (.ep n j 0)) (h4 : look H n = some (.buf wr sz (l.map f))) (h5 : l[j]? = some b) (h6 : f b = .agg cs) (h7 : cs.length = i.size)
    (h : K (.f (.agg cs)) nx H) : stepOp P tab env nx H K (.load t x) := uZ h1 h2 h3 h4 (n7 h5) (by rw [h6]; simp [FV.cells,h7]) (by
      rw [h6]
      have : ((FV.agg cs).cells.drop 0).take i.size = cs := by simp [FV.cells,← h7]
      rw [this]; exact h)
theorem BV {j off : Nat}{pv : PV}{y0 z : α}{fs : List FV} (h1 : tab t = some i) (h2 : ev env y = some pv) (h3 : pv.storable = true) (h4 : pv.cells.length = i.size) (h5 : ev env x = some (.ep n j off))
    (h6 : look H n = some (.buf true sz (l.map f))) (h7 : l[j]? = some y0) (h8 : off + i.size ≤ (f y0).cells.length) (h9 : allF pv.cells = some fs) (h10 : (fs.all fun f => !f.isAgg) = true) (h11 : fs ≠ []) (hz : gj (f y0) off fs = f z)
    (h : K (.f (.v undef)) nx (hput H n (oB true sz f (l.set j z)))) : stepOp P tab env nx H K (.store t x y) :=
  t9 h1 h2 h3 h4 h5 h6 (n7 h7) h8 h9 h10 h11 (by rw [hz,← List.map_set]; exact h)
end
section
variable {e len sz : Nat}{i ie : TI}{l xs : List α}{wr : Bool}{n lo : Nat}
theorem bM {parts : Array (Nat × Operand)}{ps : List PV} (ys : List α) (h1 : tab t = some i) (h2 : i.kd = .slice e) (h3 : tab e = some ie) (hz : ie.size = sz ∧ sz ≠ 0) (h5 : len * sz ≤ 16777216) (h6 : parts.toList.map (·.1) = List.range len)
    (h7 : evs env (parts.toList.map (·.2)) = some ps) (h8 : nw H ps = some (ys.map f,H')) (h9 : ((ys.map f).all (·.okay sz)) = true) (h : K (.ref nx 0 none) (nx + 1) ((nx,oB true sz f ys) :: H')) : stepOp P tab env nx H K (.buildSlice t len parts) :=
  rI h1 h2 h3 (by rw [hz.1]; exact hz.2) (by rw [hz.1]; exact h5) h6 h7 h8 (by rw [hz.1]; exact h9) (by rw [hz.1]; exact h)
theorem yU (h0 : ∀ e ie,tab e = some ie → ie.kd.agg = false → ie.size = 1) {k k2 : IntKind}{q r : Int}{bt : Nat} (z : α) (m : Nat) (hbt : ∀ j,tab e = some j → j.bytes = bt) (h1 : tab t = some i) (h2 : i.kd = .slice e) (h3 : tab e = some ie) (hz : ie.size = sz ∧ sz ≠ 0) (hf : (if ie.kd.agg then FV.agg (ie.zero.map .v) else .v (ie.zero.headD undef)) = f z) (h5 : ev env x = some (.f (.v (.int k q))))
    (h6 : ev env y = some (.f (.v (.int k2 r)))) (hq : q = (m : Nat)) (h7 : q ≤ r ∧ (bt : Int) * r ≤ 281474976710656 ∧ r ≤ 9223372036854775807)
    (h : K (.ref nx 0 none) (nx + 1) ((nx,oB true sz f (List.replicate m z)) :: H)) : stepOp P tab env nx H K (.makeSlice t x y) :=
  sK h0 h1 h2 h3 (by rw [hz.1]; exact hz.2) h5 h6 ⟨by omega,h7.1,by rw [hbt _ h3]; exact h7.2.1,h7.2.2⟩ (by
    have e : q.toNat = m := by omega
    rw [hz.1,hf,e,← List.map_replicate]; exact h)
theorem da {iu : TI}{e' : Nat} (h1 : tab u = some iu) (h2 : iu.kd = .slice e') (h : Holds env H y sz (xs.map f)) : Src tab env H u y sz (xs.map f) := AZ h1 h2 h
theorem Bm (h1 : tab t = some i) (h2 : i.kd = .slice e) (h3 : tab e = some ie) (hz : ie.size = sz ∧ sz ≠ 0 ∧ ie.bytes ≠ 0) (h5 : Src tab env H u y sz (xs.map f)) (h6 : ev env x = some (.ref n lo none))
    (h7 : look H n = some (.buf wr sz (l.map f))) (h8 : (l.length + xs.length) * ie.bytes ≤ 140737488355328) (h : K (.ref nx 0 none) (nx + 1) ((nx,oB wr sz f (l.drop lo ++ xs)) :: drop H n)) :
    stepOp P tab env nx H K (.call { callee := .builtin .append,args := #[x,y],argTypes := #[t,u] }) :=
  rJ h1 h2 h3 (by rw [hz.1]; exact hz.2) (by rw [hz.1]; exact h5) h6 (by rw [hz.1]; exact h7) (by simpa using h8) (by rw [hz.1,← List.map_drop,← List.map_append]; exact h)
theorem bZ (h1 : tab t = some i) (h2 : i.kd = .slice e) (h3 : tab e = some ie) (hz : ie.size = sz ∧ sz ≠ 0 ∧ ie.bytes ≠ 0) (h5 : Src tab env H u y sz (xs.map f)) (h6 : ev env x = some (.ref n 0 none))
    (h7 : look H n = some (.buf wr sz (l.map f))) (h8 : (l.length + xs.length) * ie.bytes ≤ 140737488355328) (h : K (.ref nx 0 none) (nx + 1) ((nx,oB wr sz f (l ++ xs)) :: drop H n)) :
    stepOp P tab env nx H K (.call { callee := .builtin .append,args := #[x,y],argTypes := #[t,u] }) := Bm h1 h2 h3 hz h5 h6 h7 h8 (by rw [List.drop_zero]; exact h)
end
section
variable {a b r : Nat}{ai bi : Int}
theorem cm (h1 : ev env x = some (.f (.v (.int .i64 ai)))) (h2 : ev env y = some (.f (.v (.int .i64 bi)))) (ha : ai = (a : Nat)) (hb : bi = (b : Nat)) (hr : (a : Int) + b ≤ 9223372036854775807) (h : K (pN (a + b)) nx H) :
    stepOp P tab env nx H K (.binOp .add t x y u) := gm h1 h2 (by rw [ha,hb,Int.natCast_add]) (by omega) h
theorem Be (h1 : ev env x = some (.f (.v (.int .i64 ai)))) (h2 : ev env y = some (.f (.v (.int .i64 bi)))) (ha : ai = (a : Nat)) (hb : bi = (b : Nat)) (hr : b ≤ a ∧ (a : Int) ≤ 9223372036854775807) (h : K (pN (a - b)) nx H) :
    stepOp P tab env nx H K (.binOp .sub t x y u) := jU h1 h2 (by rw [ha,hb,Int.natCast_sub hr.1]) (by omega) h
theorem kB (h1 : ev env x = some (.f (.v (.int .i64 ai)))) (h2 : ev env y = some (.f (.v (.int .i64 bi)))) (ha : ai = (a : Nat)) (hb : bi = (b : Nat)) (hr : 0 < b ∧ (a : Int) ≤ 9223372036854775807) (h : K (pN (a / b)) nx H) :
    stepOp P tab env nx H K (.binOp .quo t x y u) := BW h1 h2 (by omega) (by
      have e : ai.tdiv bi = ((a / b : Nat) : Int) := by rw [ha,hb]; rfl
      have : a / b ≤ a := Nat.div_le_self a b
      rw [e]
      generalize a / b = d at *
      rw [wrap_i64 (by omega)]; exact h)
theorem l4 (h1 : ev env x = some (.f (.v (.int .i64 ai)))) (h2 : ev env y = some (.f (.v (.int .i64 bi)))) (ha : ai = (a : Nat)) (hb : bi = (b : Nat)) (hr : 0 < b) (h : K (pN (a % b)) nx H) :
    stepOp P tab env nx H K (.binOp .rem t x y u) := qu h1 h2 (by omega) (by
      have e : ai.tmod bi = ((a % b : Nat) : Int) := by rw [ha,hb]; rfl
      rw [e]; exact h)
theorem Bi {ts : Array Nat}{a b : Nat} (h1 : evs env [x,y] = some [.f (.v (.int .i64 ai)),.f (.v (.int .i64 bi))]) (ha : ai = (a : Nat)) (hb : bi = (b : Nat)) (h : K (pN (min a b)) nx H) :
    stepOp P tab env nx H K (.call { callee := .builtin .min,args := #[x,y],argTypes := ts }) := x8 h1 rfl (by simp only [List.foldl]; rw [ha,hb]; omega) h
theorem uY {ts : Array Nat} (h1 : evs env [x,y] = some [.f (.v (.int .i64 ai)),.f (.v (.int .i64 bi))]) (h : K (pI (max ai bi)) nx H) :
    stepOp P tab env nx H K (.call { callee := .builtin .max,args := #[x,y],argTypes := ts }) := BZ h1 rfl rfl h
theorem rC {ts : Array Nat} (h1 : evs env [x,y] = some [.f (.v (.int .i64 ai)),.f (.v (.int .i64 bi))]) (h : K (pI (min ai bi)) nx H) :
    stepOp P tab env nx H K (.call { callee := .builtin .min,args := #[x,y],argTypes := ts }) := x8 h1 rfl rfl h
end
section
variable {ai : Int}{a : Nat}{k : IntKind}
theorem sd (a : Int) (n : Nat) : a.fdiv (2 ^ n) = a / 2 ^ n := Int.fdiv_eq_ediv_of_nonneg _ (Int.le_of_lt (Int.pow_pos (by omega)))
theorem Bf (n : Nat) (h1 : ev env x = some (.f (.v (.int .i64 ai)))) (ha : ai = (a : Nat)) (h2 : ev env y = some (.f (.v (.int k (n : Nat))))) (hn : n < 64) (hr : a * 2 ^ n ≤ 9223372036854775807) (h : K (pN (a * 2 ^ n)) nx H) : stepOp P tab env nx H K (.binOp .shl t x y u) :=
  nW h1 h2 (by omega) (by
    have e : IntKind.i64.bits = 64 := rfl
    have e2 : ai * 2 ^ n = ((a * 2 ^ n : Nat) : Int) := by rw [ha,Int.natCast_mul,Int.natCast_pow]; rfl
    rw [Int.toNat_natCast,e,Nat.min_eq_left (by omega),e2,wrap_i64 (by omega)]; exact h)
theorem bits_nat (op : BinOp) (f : Nat → Nat → Nat) (hf : ∀ a b : BitVec 64,(match op with|.and => a &&& b|.or => a ||| b|.xor => a ^^^ b|_ => a &&& ~~~b).toNat = f a.toNat b.toNat) {a b : Nat} (ha : a < 2 ^ 63) (hb : b < 2 ^ 63) (hr : f a b < 2 ^ 63)
    (hop : op = .and ∨ op = .or ∨ op = .xor) : dx op .i64 a b = ((f a b : Nat) : Int) := by
  have e : IntKind.i64.bits = 64 := rfl
  have ea : (BitVec.ofInt 64 (a : Int)).toNat = a := by simp [BitVec.toNat_ofInt]; omega
  have eb : (BitVec.ofInt 64 (b : Int)).toNat = b := by simp [BitVec.toNat_ofInt]; omega
  have h := hf (BitVec.ofInt 64 (a : Int)) (BitVec.ofInt 64 (b : Int))
  rw [ea,eb] at h
  rcases hop with rfl|rfl|rfl
  · have : dx .and .i64 a b = IntKind.i64.wrap ((BitVec.ofInt 64 (a : Int) &&& BitVec.ofInt 64 (b : Int)).toNat : Int) := rfl
    rw [this,h,wrap_i64 (by omega)]
  · have : dx .or .i64 a b = IntKind.i64.wrap ((BitVec.ofInt 64 (a : Int) ||| BitVec.ofInt 64 (b : Int)).toNat : Int) := rfl
    rw [this,h,wrap_i64 (by omega)]
  · have : dx .xor .i64 a b = IntKind.i64.wrap ((BitVec.ofInt 64 (a : Int) ^^^ BitVec.ofInt 64 (b : Int)).toNat : Int) := rfl
    rw [this,h,wrap_i64 (by omega)]
theorem x7 {b : Nat}{bi : Int} (h1 : ev env x = some (.f (.v (.int .i64 ai)))) (h2 : ev env y = some (.f (.v (.int .i64 bi)))) (ha : ai = (a : Nat)) (hb : bi = (b : Nat)) (hr : a < 2 ^ 63 ∧ b < 2 ^ 63) (h : K (pN (a ||| b)) nx H) : stepOp P tab env nx H K (.binOp .or t x y u) :=
  oI h1 h2 (by rw [ha,hb,bits_nat .or (· ||| ·) (fun a b => by simp) hr.1 hr.2 (Nat.or_lt_two_pow hr.1 hr.2) (.inr (.inl rfl))]; exact h)
theorem xR (a : Int) (n : Nat) (hn : n < 63) : dx .and .i64 a (2 ^ n - 1) = a % 2 ^ n := by
  have e : dx .and .i64 a (2 ^ n - 1) = IntKind.i64.wrap ((BitVec.ofInt 64 a &&& BitVec.ofInt 64 (2 ^ n - 1)).toNat : Int) := rfl
  have hp : 2 ^ n < 2 ^ 63 := Nat.pow_lt_pow_right (by omega) hn
  have h0 : 0 < 2 ^ n := Nat.two_pow_pos n
  have e1 : ((2 : Int) ^ n - 1) = ((2 ^ n - 1 : Nat) : Int) := by rw [Int.natCast_sub h0,Int.natCast_pow]; rfl
  have e2 : (BitVec.ofInt 64 (2 ^ n - 1)).toNat = 2 ^ n - 1 := by rw [e1]; simp [BitVec.toNat_ofInt]; omega
  have e3 : (BitVec.ofInt 64 a).toNat = (a % 2 ^ 64).toNat := by simp [BitVec.toNat_ofInt]
  rw [e,BitVec.toNat_and,e2,e3,Nat.and_two_pow_sub_one_eq_mod]
  have e4 : (((a % 2 ^ 64).toNat % 2 ^ n : Nat) : Int) = a % 2 ^ n := by
    rw [Int.natCast_emod,Int.toNat_of_nonneg (Int.emod_nonneg _ (by decide)),Int.natCast_pow]
    exact Int.emod_emod_of_dvd a (by exact_mod_cast Nat.pow_dvd_pow 2 (by omega : n ≤ 64))
  rw [e4,wrap_i64]
  have h5 : 0 ≤ a % 2 ^ n := Int.emod_nonneg _ (by have : (0 : Int) < 2 ^ n := Int.pow_pos (by omega)
                                                   omega)
  have h6 : a % 2 ^ n < 2 ^ n := Int.emod_lt_of_pos _ (Int.pow_pos (by omega))
  have h7 : (2 : Int) ^ n < 2 ^ 63 := by exact_mod_cast hp
  omega
theorem jC (n : Nat) {bi : Int} (hn : n < 63) (h1 : ev env x = some (.f (.v (.int .i64 ai)))) (h2 : ev env y = some (.f (.v (.int .i64 bi)))) (hb : bi = 2 ^ n - 1) (h : K (pN (ai % 2 ^ n).toNat) nx H) : stepOp P tab env nx H K (.binOp .and t x y u) :=
  qx h1 h2 (by
    have h5 : 0 ≤ ai % 2 ^ n := Int.emod_nonneg _ (by have : (0 : Int) < 2 ^ n := Int.pow_pos (by omega)
                                                      omega)
    have e : ((ai % 2 ^ n).toNat : Int) = ai % 2 ^ n := Int.toNat_of_nonneg h5
    rw [hb,xR ai n hn,← e]; exact h)
theorem yT (n : Nat) {bi : Int} (hn : n < 63) (h1 : ev env x = some (.f (.v (.int .i64 ai)))) (h2 : ev env y = some (.f (.v (.int .i64 bi)))) (ha : ai = (a : Nat)) (hb : bi = 2 ^ n - 1) (h : K (pN (a % 2 ^ n)) nx H) : stepOp P tab env nx H K (.binOp .and t x y u) :=
  jC n hn h1 h2 hb (by
    have : (ai % 2 ^ n).toNat = a % 2 ^ n := by
      rw [ha]
      have : ((a : Int)) % 2 ^ n = ((a % 2 ^ n : Nat) : Int) := by rw [Int.natCast_emod,Int.natCast_pow]; rfl
      rw [this,Int.toNat_natCast]
    rw [this]; exact h)
end
section
variable {s : Nat}{is it : TI}{k k2 : IntKind}{ai : Int}
theorem B5 {a : Nat} (h1 : tab s = some is) (h2 : tab t = some it) (h3 : it.kd = .int .i64) (h4 : is.kd = .int k2) (h5 : ev env x = some (.f (.v (.int k ai)))) (ha : ai = (a : Nat)) (hb : (a : Int) ≤ 9223372036854775807) (h : K (pN a) nx H) : stepOp P tab env nx H K (.convert s t x) :=
  wZ h1 h2 h3 h4 h5 (by omega) (by rw [ha]; exact h)
theorem nZ (h1 : tab s = some is) (h2 : tab t = some it) (h3 : it.kd = .int .u8) (h4 : is.kd = .int k2) (h5 : ev env x = some (.f (.v (.int k ai)))) (h : K (p8 (bz ai)) nx H) : stepOp P tab env nx H K (.convert s t x) := tf h1 h2 h3 h4 h5 (pz ai) h
theorem iY (h1 : tab s = some is) (h2 : tab t = some it) (h3 : it.kd = .int .u16) (h4 : is.kd = .int k2) (h5 : ev env x = some (.f (.v (.int k ai)))) (h : K (au (bV ai)) nx H) : stepOp P tab env nx H K (.convert s t x) := w4 h1 h2 h3 h4 h5 (tV ai) h
theorem u5 {a : Nat} (h1 : tab s = some is) (h2 : tab t = some it) (h3 : it.kd = .int .u8) (h4 : is.kd = .int k2) (h5 : ev env x = some (.f (.v (.int k ai)))) (ha : ai = (a : Nat)) (h : K (p8 (UInt8.ofNat a)) nx H) : stepOp P tab env nx H K (.convert s t x) := tf h1 h2 h3 h4 h5 (by rw [ha]; simp) h
theorem qv {e : Nat}{is it ie : TI}{l : List UInt8} (h1 : tab s = some is) (h2 : tab t = some it) (h3 : is.kd = .slice e) (h4 : tab e = some ie) (h5 : ie.kd = .int .u8) (h6 : it.kd = .str) (h7 : Holds env H x 1 (l.map az))
    (h : K (pT l) nx H) : stepOp P tab env nx H K (.convert s t x) := yO h1 h2 h3 h4 h5 h6 h7 h
end
theorem uX {a : UInt8} (n : Nat) {k : IntKind}{q : Int} (h1 : ev env x = some (.f (.v (.int .u8 a.toNat)))) (h2 : ev env y = some (.f (.v (.int k q)))) (hq : q = (n : Nat)) (hn : n < 8) (h : K (p8 (a >>> UInt8.ofNat n)) nx H) : stepOp P tab env nx H K (.binOp .shr t x y u) :=
  ub h1 h2 (by omega) (by
    have e : IntKind.u8.bits = 8 := rfl
    have e2 : q.toNat = n := by omega
    rw [e2,e,Nat.min_eq_left (by omega),sd]
    have : (a >>> UInt8.ofNat n).toNat = a.toNat / 2 ^ n := by
      rw [UInt8.toNat_shiftRight,Nat.shiftRight_eq_div_pow]
      congr 2
      simp; omega
    have e3 : ((a.toNat : Int)) / 2 ^ n = (((a >>> UInt8.ofNat n).toNat : Nat) : Int) := by rw [this,Int.natCast_ediv,Int.natCast_pow]; rfl
    rw [e3]; exact h)
theorem Bg {a : UInt8} (n : Nat) {k : IntKind}{q : Int} (h1 : ev env x = some (.f (.v (.int .u8 a.toNat)))) (h2 : ev env y = some (.f (.v (.int k q)))) (hq : q = (n : Nat)) (hn : n < 8) (h : K (p8 (a <<< UInt8.ofNat n)) nx H) : stepOp P tab env nx H K (.binOp .shl t x y u) :=
  nW h1 h2 (by omega) (by
    have e : IntKind.u8.bits = 8 := rfl
    have e2 : q.toNat = n := by omega
    rw [e2,e,Nat.min_eq_left (by omega),ki]
    have : (a <<< UInt8.ofNat n).toNat = a.toNat * 2 ^ n % 256 := by
      rw [UInt8.toNat_shiftLeft,Nat.shiftLeft_eq]
      have h1 : (UInt8.ofNat n).toNat % 8 = n := by simp; omega
      rw [h1]
    have e3 : ((a.toNat : Int)) * 2 ^ n % 256 = (((a <<< UInt8.ofNat n).toNat : Nat) : Int) := by rw [this,Int.natCast_emod,Int.natCast_mul,Int.natCast_pow]; rfl
    rw [e3]; exact h)
theorem qw {s : Nat}{is it : TI}{k k' k2 : IntKind}{a : Int} (h1 : tab s = some is) (h2 : tab t = some it) (h3 : it.kd = .int k) (h4 : is.kd = .int k2) (h5 : ev env x = some (.f (.v (.int k' a)))) (hk : k.signed = false) (ha : 0 ≤ a ∧ a < 2 ^ k.bits) (h : K (pK k a) nx H) :
    stepOp P tab env nx H K (.convert s t x) := u6 h1 h2 h3 h4 h5 (by
      simp only [IntKind.wrap,hk,Bool.false_and,Bool.false_eq_true,if_false]
      exact Int.emod_eq_of_lt ha.1 ha.2) h
end
section
variable {P : Program}{tab : bR}{c : Ctx}{nx : Nat}{env : aI}{H H' : ah}{code : Code}{Q : cH}
def SubE : aI → aI → Prop
  | [],_ => True
  | (k,p) :: t,e => look e k = some p ∧ SubE t e
theorem SubE.get : ∀ {a b : aI},SubE a b → ∀ k p,look a k = some p → look b k = some p
  | [],_,_,k,p,h => by simp [look] at h
  | (q,x) :: t,b,hs,k,p,h => by
    simp only [look] at h
    split at h
    · rename_i e; subst e; cases h; exact hs.1
    · exact SubE.get hs.2 k p h
theorem Ok.leCells {φ : Nat → Phys}{So : Nat → Nat → Prop}{w : World}{n : Nat}{cs ds : List PV} (h : Ok φ nx So H w) (hl : look H n = some (.obj cs)) (hlen : cs.length = ds.length)
    (hle : ∀ (i : Nat) x y,cs[i]? = some x → ds[i]? = some y → ∀ v,Rep φ nx w (SS So φ H) x v → Rep φ nx w (SS So φ H) y v) : Ok φ nx So (hput H n (.obj ds)) w := by
  have hlk : ∀ m o,look (hput H n (.obj ds)) m = some o → (m = n ∧ o = .obj ds) ∨ (m ≠ n ∧ look H m = some o) := by
    intro m o hm
    by_cases e : n = m
    · subst e; rw [dX] at hm; cases hm; exact .inl ⟨rfl,rfl⟩
    · rw [eK _ _ e] at hm; exact .inr ⟨fun q => e q.symm,hm⟩
  have hown : ∀ b off,Own φ (hput H n (.obj ds)) b off ↔ Own φ H b off := by
    intro b off
    constructor
    · rintro ⟨m,o,h1,h2,h3,h4⟩
      rcases hlk m o h1 with ⟨rfl,rfl⟩|⟨_,h1⟩
      · exact ⟨m,_,hl,h2,h3,Nat.zero_le _⟩
      · exact ⟨m,o,h1,h2,h3,h4⟩
    · rintro ⟨m,o,h1,h2,h3,h4⟩
      by_cases e : n = m
      · subst e; exact ⟨n,_,dX _ _ _,h2,h3,Nat.zero_le _⟩
      · exact ⟨m,o,by rw [eK _ _ e]; exact h1,h2,h3,h4⟩
  have hSS : SS So φ (hput H n (.obj ds)) = SS So φ H := by
    funext b off; apply propext
    constructor
    · rintro (a|a)
      · exact .inl a
      · exact .inr ((hown b off).1 a)
    · rintro (a|a)
      · exact .inl a
      · exact .inr ((hown b off).2 a)
  refine ⟨fun m o hm => ?_,fun m k o o' h1 h2 => ?_,fun m o hm => ?_⟩
  · rcases hlk m o hm with ⟨rfl,rfl⟩|⟨_,h1⟩
    · obtain ⟨a1,a2,arr,ty,a3,a4,a5⟩ := h.obj m _ hl
      refine ⟨a1,a2,arr,ty,a3,by rw [a4,hlen],fun i y hy => ?_⟩
      have hi : i < cs.length := by rw [hlen]; exact (List.getElem?_eq_some_iff.1 hy).1
      obtain ⟨u,b1,b2,b3⟩ := a5 i cs[i] (by simp [hi])
      rw [hSS]
      exact ⟨u,b1,b2,hle i _ y (by simp [hi]) hy u b3⟩
    · rw [hSS]; exact h.obj m o h1
  · rcases hlk m o h1 with ⟨e1,rfl⟩|⟨_,g1⟩ <;> rcases hlk k o' h2 with ⟨e2,rfl⟩|⟨_,g2⟩
    · intro e; exact absurd (e1.trans e2.symm) e
    · rw [e1]; exact h.dis n k _ o' hl g2
    · rw [e2]; exact h.dis m n o _ g1 hl
    · exact h.dis m k o o' g1 g2
  · rcases hlk m o hm with ⟨rfl,rfl⟩|⟨_,h1⟩
    · exact h.out m _ hl
    · exact h.out m o h1
theorem rP {φ : Nat → Phys}{n : Nat}{cs ds : List PV} (hl : look H n = some (.obj cs)) : Own φ (hput H n (.obj ds)) = Own φ H := by
  funext b off; apply propext
  constructor
  · rintro ⟨m,o,h1,h2,h3,h4⟩
    by_cases e : n = m
    · subst e; exact ⟨n,_,hl,h2,h3,Nat.zero_le _⟩
    · rw [eK _ _ e] at h1; exact ⟨m,o,h1,h2,h3,h4⟩
  · rintro ⟨m,o,h1,h2,h3,h4⟩
    by_cases e : n = m
    · subst e; exact ⟨n,_,dX _ _ _,h2,h3,Nat.zero_le _⟩
    · exact ⟨m,o,by rw [eK _ _ e]; exact h1,h2,h3,h4⟩
theorem StΦ.leCells {φ : Nat → Phys}{tmps : Array Value}{w : World}{n : Nat}{cs ds : List PV} (h : StΦ c nx env H φ tmps w) (hl : look H n = some (.obj cs)) (hlen : cs.length = ds.length)
    (hle : ∀ (i : Nat) x y,cs[i]? = some x → ds[i]? = some y → ∀ v,Rep φ nx w (SS c.So φ H) x v → Rep φ nx w (SS c.So φ H) y v) : StΦ c nx env (hput H n (.obj ds)) φ tmps w := by
  have hSS : SS c.So φ (hput H n (.obj ds)) = SS c.So φ H := by rw [yn,yn,rP hl]
  exact ⟨h.ok.leCells hl hlen hle,by rw [hSS]; exact h.env,by rw [rP hl]; exact h.ext,h.keep,h.size⟩
theorem le_refl (x : PV) : PV.le x x := fun _ _ _ _ _ h => h
theorem oS {α : Type}{f : α → FV} (sz : Nat) (cl : Bool) : PV.le aH (pS sz cl f []) := vy sz cl
def LeL : List PV → List PV → Prop
  | [],[] => True
  | x :: s,y :: t => PV.le x y ∧ LeL s t
  | _,_ => False
theorem LeL.get : ∀ {a b : List PV},LeL a b → a.length = b.length ∧ ∀ (i : Nat) x y,a[i]? = some x → b[i]? = some y → PV.le x y
  | [],[],_ => ⟨rfl,fun i x y h => by simp at h⟩
  | [],_ :: _,h => h.elim
  | _ :: _,[],h => h.elim
  | x :: s,y :: t,h => by
    obtain ⟨k1,k2⟩ := LeL.get h.2
    refine ⟨by simp [k1],fun i a b ha hb => ?_⟩
    cases i with
    | zero => simp at ha hb; subst ha; subst hb; exact h.1
    | succ i => exact k2 i a b (by simpa using ha) (by simpa using hb)
theorem T.leL {g : Nat}{args args' : List PV}{k : Nat}{R : PV → Nat → ah → Prop} (hl : LeL args args') (h : T P g args' k H R) : T P g args k H R := h.le hl.get.1 hl.get.2
theorem T.post {g : Nat}{args : List PV}{k : Nat}{R R' : PV → Nat → ah → Prop} (h : T P g args k H R) (hr : ∀ a b d,R a b d → R' a b d) : T P g args k H R' := h.mono fun a b d k => hr a b d k
theorem bB {rs : List ResultVar}{k nx1 : Nat}{R : PV → Nat → ah → Prop}{xs : List PV}{r : PV}{H1 : ah} (ps : List (Nat × Nat)) (h : retL tab env H rs xs) (hp : j9 xs = r) (h1 : pairsOk k nx1 ps = true) (h2 : SubHeap ps H1 H) (h3 : k ≤ nx1) (h4 : has (hasP ps) r = true)
    (hR : R (ren (gA ps) r) nx1 H1) : pj tab rs k R .ret env nx H := tB ⟨xs,ps,nx1,H1,h,h1,h2,h3,by rw [hp]; exact h4,by rw [hp]; exact hR⟩
end
def V (c : Ctx) (G : Act → World → Prop) (env : aI) (nx : Nat) (H : ah) : Prop := ∀ φ tmps w,StΦ c nx env H φ tmps w → G (act tmps) w
def R (P : Program) (c : Ctx) (ops : Array Oper) (rest : List Oper) (env : aI) (nx : Nat) (H : ah) (Q : cH) : Prop := V c (wpList P ops (PostOf c Q) rest) env nx H
section
variable {c : Ctx}{G : Act → World → Prop}{nx : Nat}{env : aI}{H H' : ah}
theorem tU {s : Nat}{x y : PV} (he : look env s = some x) (hl : PV.le x y) (h : V c G ((s,y) :: env) nx H) : V c G env nx H := by
  intro φ tmps w hs
  refine h φ tmps w ⟨hs.ok,fun m q hm => ?_,hs.ext,hs.keep,hs.size⟩
  by_cases e : s = m
  · subst e
    rw [bQ] at hm; cases hm
    obtain ⟨v,k1,k2⟩ := hs.env s x he
    exact ⟨v,k1,hl _ _ _ _ _ k2⟩
  · rw [bv _ _ e] at hm
    exact hs.env m q hm
theorem xY {s : Nat}{pv : PV}{y : FV} (he : look env s = some pv) (hf : mY H pv = some (y,H')) (h : V c G ((s,.f y) :: env) nx H') : V c G env nx H := by
  intro φ tmps w hs
  obtain ⟨v,k1,k2⟩ := hs.env s pv he
  obtain ⟨a,b,d⟩ := od hs hf
  refine h φ tmps w ⟨a.ok,fun m q hm => ?_,a.ext,a.keep,a.size⟩
  by_cases e : s = m
  · subst e
    rw [bQ] at hm; cases hm
    exact ⟨v,k1,.f (d v k2)⟩
  · rw [bv _ _ e] at hm
    exact a.env m q hm
theorem BJ {n sz : Nat}{wr : Bool}{l : List FV} (hl : look H n = some (.buf wr sz l)) (h : V c G env nx (hput H n (.buf false sz l))) : V c G env nx H := fun φ tmps w hs => h φ tmps w (hs.freeze hl)
theorem BI (E : aI) (H' : ah) (n : Nat) (he : SubE E env) (hH : H = H') (hn : nx = n) (h : V c G E n H') : V c G env nx H := by
  subst hn; subst hH
  exact fun φ tmps w hs => h φ tmps w (hs.subEnv he.get)
theorem CK (e : H = H') (h : V c G env nx H') : V c G env nx H := by rw [e]; exact h
theorem yw {s sz : Nat} (hl : look env s = some (.f (.v (.slice none 0 0)))) (h : V c G ((s,.ref nx 0 none) :: env) (nx + 1) ((nx,.buf true sz []) :: H)) : V c G env nx H := by
  intro φ tmps w hs
  have h1 := hs.nilbuf true sz
  obtain ⟨v,k1,k2⟩ := h1.env s _ hl
  have hv := k2.v_inv
  subst hv
  refine h _ tmps w ⟨h1.ok,fun n pv hn => ?_,h1.ext,h1.keep,h1.size⟩
  by_cases e : s = n
  · subst e
    rw [bQ] at hn; cases hn
    exact ⟨_,k1,.refnil (Nat.lt_succ_self _) (by rw [upd_same]) (by rw [upd_same]) rfl⟩
  · rw [bv _ _ e] at hn
    exact h1.env n pv hn
theorem uO {n j m lo sz : Nat}{hi : Option Nat}{wr : Bool}{l : List FV}{cs : List PV} (hnm : (m == n) = false) (hl : look H n = some (.obj cs)) (hx : cs[j]? = some (.ref m lo hi)) (hb : look H m = some (.buf wr sz l))
    (h : V c G env nx (hput (hput H m (.buf false sz l)) n (.obj (cs.set j (.f (.sl sz false (view lo hi l))))))) : V c G env nx H := fun φ tmps w hs => by
  have hne : m ≠ n := by simpa using hnm
  have h1 := hs.freeze hb
  refine h φ tmps w (h1.leCells (by rw [eK _ _ hne]; exact hl) (by simp) fun i a b ha hb2 v hr => ?_)
  by_cases e : j = i
  · subst e
    rw [hx] at ha; cases ha
    have hj := (List.getElem?_eq_some_iff.1 hx).1
    simp [hj] at hb2; subst hb2
    exact .f (h1.frozen_ref (dX _ _ _) hr)
  · rw [List.getElem?_set_ne e,ha] at hb2; cases hb2; exact hr
theorem wm {n j sz : Nat}{cs : List PV} (hn : (nx == n) = false) (hl : look H n = some (.obj cs)) (hx : cs[j]? = some (.f (.v (.slice none 0 0)))) (h : V c G env (nx + 1) (hput ((nx,.buf true sz []) :: H) n (.obj (cs.set j (.ref nx 0 none))))) : V c G env nx H := fun φ tmps w hs => by
  have h1 := hs.nilbuf true sz
  have hne : nx ≠ n := by simpa using hn
  refine h _ tmps w (h1.leCells (by rw [bv _ _ hne]; exact hl) (by simp) fun i a b ha hb2 v hr => ?_)
  by_cases e : j = i
  · subst e
    rw [hx] at ha; cases ha
    have hj := (List.getElem?_eq_some_iff.1 hx).1
    simp [hj] at hb2; subst hb2
    rw [hr.v_inv]
    exact .refnil (Nat.lt_succ_self _) (by rw [upd_same]) (by rw [upd_same]) rfl
  · rw [List.getElem?_set_ne e,ha] at hb2; cases hb2; exact hr
end
section
variable {P : Program}{tab : bR}{c : Ctx}{nx : Nat}{env : aI}{H H' : ah}{Q : cH}{ops : Array Oper}{rest : List Oper}{code : Code}
theorem jq {s : Nat}{x y : PV} (he : look env s = some x) (hl : PV.le x y) (h : R P c ops rest ((s,y) :: env) nx H Q) : R P c ops rest env nx H Q := tU he hl h
theorem dw {s : Nat}{x y : PV} (he : look env s = some x) (hl : PV.le x y) (h : W P c code ((s,y) :: env) nx H Q) : W P c code env nx H Q := tU he hl h
theorem bh {s : Nat}{x y : PV} (he : look env s = some x) (e : x = y) (h : R P c ops rest ((s,y) :: env) nx H Q) : R P c ops rest env nx H Q := tU he (le_of_eq e) h
theorem aq {s : Nat}{x y : PV} (he : look env s = some x) (e : x = y) (h : W P c code ((s,y) :: env) nx H Q) : W P c code env nx H Q := tU he (le_of_eq e) h
theorem lj {s : Nat}{pv : PV}{y : FV} (he : look env s = some pv) (hf : mY H pv = some (y,H')) (h : R P c ops rest ((s,.f y) :: env) nx H' Q) : R P c ops rest env nx H Q := xY he hf h
theorem BH {s : Nat}{pv : PV}{y : FV} (he : look env s = some pv) (hf : mY H pv = some (y,H')) (h : W P c code ((s,.f y) :: env) nx H' Q) : W P c code env nx H Q := xY he hf h
theorem fN {n sz : Nat}{wr : Bool}{l : List FV} (hl : look H n = some (.buf wr sz l)) (h : W P c code env nx (hput H n (.buf false sz l)) Q) : W P c code env nx H Q := BJ hl h
theorem aE (E : aI) (H' : ah) (n : Nat) (he : SubE E env) (hH : H = H') (hn : nx = n) (h : R P c ops rest E n H' Q) : R P c ops rest env nx H Q := BI E H' n he hH hn h
theorem eN (e : H = H') (h : W P c code env nx H' Q) : W P c code env nx H Q := CK e h
theorem dD {s sz : Nat} (hl : look env s = some (.f (.v (.slice none 0 0)))) (h : W P c code ((s,.ref nx 0 none) :: env) (nx + 1) ((nx,.buf true sz []) :: H) Q) : W P c code env nx H Q := yw hl h
theorem kD {n j m lo sz : Nat}{hi : Option Nat}{wr : Bool}{l : List FV}{cs : List PV} (hnm : (m == n) = false) (hl : look H n = some (.obj cs)) (hx : cs[j]? = some (.ref m lo hi)) (hb : look H m = some (.buf wr sz l)) (h : R P c ops rest env nx (hput (hput H m (.buf false sz l)) n (.obj (cs.set j (.f (.sl sz false (view lo hi l)))))) Q) : R P c ops rest env nx H Q := uO hnm hl hx hb h
theorem gF {n j m lo sz : Nat}{hi : Option Nat}{wr : Bool}{l : List FV}{cs : List PV} (hnm : (m == n) = false) (hl : look H n = some (.obj cs)) (hx : cs[j]? = some (.ref m lo hi)) (hb : look H m = some (.buf wr sz l)) (h : W P c code env nx (hput (hput H m (.buf false sz l)) n (.obj (cs.set j (.f (.sl sz false (view lo hi l)))))) Q) : W P c code env nx H Q := uO hnm hl hx hb h
theorem fO {n j sz : Nat}{cs : List PV} (hn : (nx == n) = false) (hl : look H n = some (.obj cs)) (hx : cs[j]? = some (.f (.v (.slice none 0 0)))) (h : W P c code env (nx + 1) (hput ((nx,.buf true sz []) :: H) n (.obj (cs.set j (.ref nx 0 none)))) Q) : W P c code env nx H Q := wm hn hl hx h
theorem bG (h : Q .normal env nx H) : R P c ops [] env nx H Q := fun φ tmps w hs => ⟨.normal,env,nx,H,φ,rfl,rfl,hs,h⟩
theorem B7 (ht : TabOk P tab) {o : Oper} (hd : dstOk c.nt o.dst = true) (h : stepOp P tab env nx H (fun pv nx' H' => R P c ops rest (putE o.dst pv env) nx' H' Q) o.op) {φ : Nat → Phys}{tmps : Array Value}{w : World} (hs : StΦ c nx env H φ tmps w) :
    o.wp P (act tmps) w (wpList P ops (PostOf c Q) rest) (PostOf c Q) := by
  refine tC ht h φ tmps w hs _ _ fun pv nx' H' φ' v w' hk hs' hr => ?_
  have e : (act tmps).put o.dst v = act ((act tmps).put o.dst v).tmps := by cases o.dst <;> rfl
  rw [e]
  exact hk φ' _ w' (hs'.putE hr hd)
theorem oM (ht : TabOk P tab) {dst : Option Nat}{op : Op}{t : Nat}{p : String}{a : Array Edge}{nt : Nat} (hnt : c.nt = nt) (hd : dstOk nt dst = true) (h : stepOp P tab env nx H (fun pv nx' H' => R P c ops rest (putE dst pv env) nx' H' Q) op) : R P c ops (⟨dst,op,t,p,a,none⟩ :: rest) env nx H Q := by
  subst hnt
  intro φ tmps w hs
  unfold wpList
  rw [if_pos (by simp [Region.wanted])]
  exact .inl (B7 ht (o := ⟨dst,op,t,p,a,none⟩) hd h hs)
theorem oN (ht : TabOk P tab) {dst : Option Nat}{op : Op}{t : Nat}{p : String}{a : Array Edge}{nt : Nat} (hnt : c.nt = nt) {j d : Nat}{want : Bool}{v : Value} (hj : (ops[j]?).bind (·.dst) = some d) (hb : look env d = some (.f (.v v))) (hd : dstOk nt dst = true)
    (h1 : vb v = some want → R P c ops (⟨dst,op,t,p,a,none⟩ :: rest) env nx H Q) (h2 : vb v ≠ some want → R P c ops rest (fQ dst env) nx H Q) : R P c ops (⟨dst,op,t,p,a,some (j,want)⟩ :: rest) env nx H Q := by
  subst hnt
  intro φ tmps w hs
  obtain ⟨u,k1,k2⟩ := hs.env d _ hb
  have hv := k2.v_inv
  subst hv
  have hy := nJ hj k1
  unfold wpList
  by_cases hw : vb u = some want
  · rw [if_pos (by simp [Region.wanted,hy,hw])]
    have h3 := h1 hw φ tmps w hs
    unfold wpList at h3
    rw [if_pos (by simp [Region.wanted])] at h3
    exact h3
  · rw [if_neg (by simp [Region.wanted,hy,hw])]
    have e : (act tmps).put dst undef = act ((act tmps).put dst undef).tmps := by cases dst <;> rfl
    show wpList P ops (PostOf c Q) rest ((act tmps).put dst undef) w
    rw [e]
    exact h2 hw φ _ w (hs.putE (.f (.v undef)) hd)
theorem bS (ht : TabOk P tab) {dst : Option Nat}{op : Op}{t : Nat}{p : String}{a : Array Edge}{nt : Nat} (hnt : c.nt = nt) {j d : Nat}{want b : Bool} (hj : (ops[j]?).bind (·.dst) = some d) (hb : look env d = some (.f (.v (.bool b)))) (hd : dstOk nt dst = true)
    (h1 : b = want → R P c ops (⟨dst,op,t,p,a,none⟩ :: rest) env nx H Q) (h2 : b = !want → R P c ops rest (fQ dst env) nx H Q) : R P c ops (⟨dst,op,t,p,a,some (j,want)⟩ :: rest) env nx H Q :=
  oN ht hnt hj hb hd (fun e => h1 (by simpa [vb] using e)) (fun e => h2 (by cases b <;> cases want <;> simp_all [vb]))
theorem zl (ht : TabOk P tab) {dst : Option Nat}{op : Op}{t : Nat}{p : String}{a : Array Edge}{nt : Nat} (hnt : c.nt = nt) {j d : Nat}{want : Bool} (hj : (ops[j]?).bind (·.dst) = some d) (hb : look env d = some aZ) (hd : dstOk nt dst = true)
    (h2 : R P c ops rest (fQ dst env) nx H Q) : R P c ops (⟨dst,op,t,p,a,some (j,want)⟩ :: rest) env nx H Q :=
  oN ht hnt hj hb hd (fun e => (by cases e)) (fun _ => h2)
theorem bk {id : Nat} (h : R P c ops ops.toList env nx H Q) : W P c (.region id ops false) env nx H Q := fun φ tmps w hs => wp_region_list (h φ tmps w hs)
def FLe (x y : FV) : Prop := ∀ w S v,RepF w S x v → RepF w S y v
theorem FLe.refl (x : FV) : FLe x x := fun _ _ _ h => h
theorem FLe.of {x y : FV} (h : x = y) : FLe x y := by subst h; exact FLe.refl x
theorem FLe.nil (sz : Nat) (cl : Bool) : FLe (.v (.slice none 0 0)) (.sl sz cl []) := by
  intro w S v h; cases h; exact .slnil sz cl
theorem FLe.loose {sz : Nat}{cl : Bool}{l : List FV} : FLe (.sl sz cl l) (.sl sz false l) := by
  intro w S v h
  cases h with
  | slnil _ _ => exact .slnil sz false
  | slemp _ _ A => exact .slemp sz false A
  | sl _ _ l b off cap val h1 h2 h3 h4 h5 => exact .sl sz false l b off cap val h1 (fun e => by cases e) h3 h4 h5
def FLeL : List FV → List FV → Prop
  | [],[] => True
  | x :: s,y :: t => FLe x y ∧ FLeL s t
  | _,_ => False
theorem FLeL.get : ∀ {a b : List FV},FLeL a b → a.length = b.length ∧ ∀ (i : Nat) x y,a[i]? = some x → b[i]? = some y → FLe x y
  | [],[],_ => ⟨rfl,fun i x y h => by simp at h⟩
  | [],_ :: _,h => h.elim
  | _ :: _,[],h => h.elim
  | x :: s,y :: t,h => by
    obtain ⟨k1,k2⟩ := FLeL.get h.2
    refine ⟨by simp [k1],fun i a b ha hb => ?_⟩
    cases i with
    | zero => simp at ha hb; subst ha; subst hb; exact h.1
    | succ i => exact k2 i a b (by simpa using ha) (by simpa using hb)
theorem FLe.agg {cs ds : List FV} (h : FLeL cs ds) : FLe (.agg cs) (.agg ds) := by
  intro w S v hv
  obtain ⟨h1,h2⟩ := h.get
  cases hv with
  | agg _ vs a1 a2 a3 =>
    refine .agg ds vs (by rw [a1,h1]) a2 fun i d u hd hu => ?_
    have hi : i < cs.length := by rw [h1]; exact (List.getElem?_eq_some_iff.1 hd).1
    exact h2 i cs[i] d (by simp [hi]) hd _ _ _ (a3 i cs[i] u (by simp [hi]) hu)
theorem ed {x y : FV} (h : FLe x y) : PV.le (.f x) (.f y) := by
  intro φ nx w S v hv
  cases hv with|f hv => exact .f (h _ _ _ hv)
theorem ax {α : Type}{f : α → FV} (sz : Nat) (cl : Bool) : PV.le aH (pS sz cl f []) := vy sz cl
theorem aO {f : Operand}{args : Array Operand}{ts : Array Nat}{g : Nat}{ps : List PV}{r : PV} (h1 : ev env f = some (.clo (.func g) [])) (h2 : evs env args.toList = some ps) (h3 : ps.all isF = true) (ht : T P g ps 0 [] (Ret r 0 []))
    (hr : has (fun _ => false) r = true) {K : PV → Nat → ah → Prop} (h : K r nx H) : stepOp P tab env nx H K (.call { callee := .value f,args := args,argTypes := ts }) := yZ h1 h2 h3 ht hr h
end
section
variable {P : Program}{c : Ctx}{nx : Nat}{env : aI}{H : ah}{Q : cH}{body a b : Code}
theorem uq (I : Prop) (E : aI) (N : Nat) (G : ah) (h1 : W P c a env nx H (thenP (fun env' _ H' => I ∧ Emb c.k E N G env' H') Q)) (h2 : I → W P c b E N G Q) : W P c (.seq a b) env nx H Q :=
  q8 (α := Unit) (fun x => I) (fun x => E) (fun _ => N) (fun x => G) (h1.mono fun e env nx H h => by
    cases e with
    | normal => obtain ⟨q1,q3⟩ := h; exact ⟨(),q1,q3⟩
    | exit i => exact h
    | ret => exact h) fun x hx => h2  hx
theorem gu {A0 : Type} (I : A0 → Prop) (E : A0 → aI) (N : Nat) (G : A0 → ah) (μ : A0 → Nat) (z0 : A0) (hI : (I z0)) (h0 : Emb c.k (E z0) N (G z0) env H)
    (round : ∀ a0,(I a0) → W P c body (E a0) N (G a0) (thenP (fun env' _ H' => ∃ y0,(I y0) ∧ (μ y0) < (μ a0) ∧ Emb c.k (E y0) N (G y0) env' H') Q)) : W P c (.loop body) env nx H Q :=
  lO (α := A0) (fun x => (I x)) (fun x => (E x)) (fun _ => N) (fun x => (G x)) (fun x => (μ x)) z0 hI h0 fun x hx => (round x hx).mono fun e env nx H h => by
    cases e with
    | normal => obtain ⟨y0,q1,q2,q3⟩ := h; exact ⟨y0,q1,q2,q3⟩
    | exit i => exact h
    | ret => exact h
theorem qF {A0 : Type} (I : A0 → Prop) (E : A0 → aI) (N : Nat) (G : A0 → ah) (h1 : W P c a env nx H (thenP (fun env' _ H' => ∃ y0,(I y0) ∧ Emb c.k (E y0) N (G y0) env' H') Q)) (h2 : ∀ a0,(I a0) → W P c b (E a0) N (G a0) Q) : W P c (.seq a b) env nx H Q :=
  q8 (α := A0) (fun x => (I x)) (fun x => (E x)) (fun _ => N) (fun x => (G x)) (h1.mono fun e env nx H h => by
    cases e with
    | normal => obtain ⟨y0,q1,q3⟩ := h; exact ⟨y0,q1,q3⟩
    | exit i => exact h
    | ret => exact h) fun x hx => h2 x hx
theorem gf {A0 A1 : Type} (I : A0 → A1 → Prop) (E : A0 → A1 → aI) (N : Nat) (G : A0 → A1 → ah) (μ : A0 → A1 → Nat) (z0 : A0) (z1 : A1) (hI : (I z0 z1)) (h0 : Emb c.k (E z0 z1) N (G z0 z1) env H)
    (round : ∀ a0 a1,(I a0 a1) → W P c body (E a0 a1) N (G a0 a1) (thenP (fun env' _ H' => ∃ y0 y1,(I y0 y1) ∧ (μ y0 y1) < (μ a0 a1) ∧ Emb c.k (E y0 y1) N (G y0 y1) env' H') Q)) : W P c (.loop body) env nx H Q :=
  lO (α := A0 × A1) (fun x => (I x.1 x.2)) (fun x => (E x.1 x.2)) (fun _ => N) (fun x => (G x.1 x.2)) (fun x => (μ x.1 x.2)) (z0,z1) hI h0 fun x hx => (round x.1 x.2 hx).mono fun e env nx H h => by
    cases e with
    | normal => obtain ⟨y0,y1,q1,q2,q3⟩ := h; exact ⟨(y0,y1),q1,q2,q3⟩
    | exit i => exact h
    | ret => exact h
theorem yk {A0 A1 : Type} (I : A0 → A1 → Prop) (E : A0 → A1 → aI) (N : Nat) (G : A0 → A1 → ah) (h1 : W P c a env nx H (thenP (fun env' _ H' => ∃ y0 y1,(I y0 y1) ∧ Emb c.k (E y0 y1) N (G y0 y1) env' H') Q)) (h2 : ∀ a0 a1,(I a0 a1) → W P c b (E a0 a1) N (G a0 a1) Q) : W P c (.seq a b) env nx H Q :=
  q8 (α := A0 × A1) (fun x => (I x.1 x.2)) (fun x => (E x.1 x.2)) (fun _ => N) (fun x => (G x.1 x.2)) (h1.mono fun e env nx H h => by
    cases e with
    | normal => obtain ⟨y0,y1,q1,q3⟩ := h; exact ⟨(y0,y1),q1,q3⟩
    | exit i => exact h
    | ret => exact h) fun x hx => h2 x.1 x.2 hx
theorem iP {A0 A1 A2 : Type} (I : A0 → A1 → A2 → Prop) (E : A0 → A1 → A2 → aI) (N : Nat) (G : A0 → A1 → A2 → ah) (μ : A0 → A1 → A2 → Nat) (z0 : A0) (z1 : A1) (z2 : A2) (hI : (I z0 z1 z2)) (h0 : Emb c.k (E z0 z1 z2) N (G z0 z1 z2) env H)
    (round : ∀ a0 a1 a2,(I a0 a1 a2) → W P c body (E a0 a1 a2) N (G a0 a1 a2) (thenP (fun env' _ H' => ∃ y0 y1 y2,(I y0 y1 y2) ∧ (μ y0 y1 y2) < (μ a0 a1 a2) ∧ Emb c.k (E y0 y1 y2) N (G y0 y1 y2) env' H') Q)) : W P c (.loop body) env nx H Q :=
  lO (α := A0 × A1 × A2) (fun x => (I x.1 x.2.1 x.2.2)) (fun x => (E x.1 x.2.1 x.2.2)) (fun _ => N) (fun x => (G x.1 x.2.1 x.2.2)) (fun x => (μ x.1 x.2.1 x.2.2)) (z0,z1,z2) hI h0 fun x hx => (round x.1 x.2.1 x.2.2 hx).mono fun e env nx H h => by
    cases e with
    | normal => obtain ⟨y0,y1,y2,q1,q2,q3⟩ := h; exact ⟨(y0,y1,y2),q1,q2,q3⟩
    | exit i => exact h
    | ret => exact h
theorem yh {A0 A1 A2 A3 : Type} (I : A0 → A1 → A2 → A3 → Prop) (E : A0 → A1 → A2 → A3 → aI) (N : Nat) (G : A0 → A1 → A2 → A3 → ah) (μ : A0 → A1 → A2 → A3 → Nat) (z0 : A0) (z1 : A1) (z2 : A2) (z3 : A3) (hI : (I z0 z1 z2 z3)) (h0 : Emb c.k (E z0 z1 z2 z3) N (G z0 z1 z2 z3) env H)
    (round : ∀ a0 a1 a2 a3,(I a0 a1 a2 a3) → W P c body (E a0 a1 a2 a3) N (G a0 a1 a2 a3) (thenP (fun env' _ H' => ∃ y0 y1 y2 y3,(I y0 y1 y2 y3) ∧ (μ y0 y1 y2 y3) < (μ a0 a1 a2 a3) ∧ Emb c.k (E y0 y1 y2 y3) N (G y0 y1 y2 y3) env' H') Q)) : W P c (.loop body) env nx H Q :=
  lO (α := A0 × A1 × A2 × A3) (fun x => (I x.1 x.2.1 x.2.2.1 x.2.2.2)) (fun x => (E x.1 x.2.1 x.2.2.1 x.2.2.2)) (fun _ => N) (fun x => (G x.1 x.2.1 x.2.2.1 x.2.2.2)) (fun x => (μ x.1 x.2.1 x.2.2.1 x.2.2.2)) (z0,z1,z2,z3) hI h0 fun x hx => (round x.1 x.2.1 x.2.2.1 x.2.2.2 hx).mono fun e env nx H h => by
    cases e with
    | normal => obtain ⟨y0,y1,y2,y3,q1,q2,q3⟩ := h; exact ⟨(y0,y1,y2,y3),q1,q2,q3⟩
    | exit i => exact h
    | ret => exact h
theorem Bt {A0 A1 A2 A3 A4 A5 A6 A7 A8 A9 A10 : Type} (I : A0 → A1 → A2 → A3 → A4 → A5 → A6 → A7 → A8 → A9 → A10 → Prop) (E : A0 → A1 → A2 → A3 → A4 → A5 → A6 → A7 → A8 → A9 → A10 → aI) (N : Nat) (G : A0 → A1 → A2 → A3 → A4 → A5 → A6 → A7 → A8 → A9 → A10 → ah) (μ : A0 → A1 → A2 → A3 → A4 → A5 → A6 → A7 → A8 → A9 → A10 → Nat) (z0 : A0) (z1 : A1) (z2 : A2) (z3 : A3) (z4 : A4) (z5 : A5) (z6 : A6) (z7 : A7) (z8 : A8) (z9 : A9) (z10 : A10) (hI : (I z0 z1 z2 z3 z4 z5 z6 z7 z8 z9 z10)) (h0 : Emb c.k (E z0 z1 z2 z3 z4 z5 z6 z7 z8 z9 z10) N (G z0 z1 z2 z3 z4 z5 z6 z7 z8 z9 z10) env H)
    (round : ∀ a0 a1 a2 a3 a4 a5 a6 a7 a8 a9 a10,(I a0 a1 a2 a3 a4 a5 a6 a7 a8 a9 a10) → W P c body (E a0 a1 a2 a3 a4 a5 a6 a7 a8 a9 a10) N (G a0 a1 a2 a3 a4 a5 a6 a7 a8 a9 a10) (thenP (fun env' _ H' => ∃ y0 y1 y2 y3 y4 y5 y6 y7 y8 y9 y10,(I y0 y1 y2 y3 y4 y5 y6 y7 y8 y9 y10) ∧ (μ y0 y1 y2 y3 y4 y5 y6 y7 y8 y9 y10) < (μ a0 a1 a2 a3 a4 a5 a6 a7 a8 a9 a10) ∧ Emb c.k (E y0 y1 y2 y3 y4 y5 y6 y7 y8 y9 y10) N (G y0 y1 y2 y3 y4 y5 y6 y7 y8 y9 y10) env' H') Q)) : W P c (.loop body) env nx H Q :=
  lO (α := A0 × A1 × A2 × A3 × A4 × A5 × A6 × A7 × A8 × A9 × A10) (fun x => (I x.1 x.2.1 x.2.2.1 x.2.2.2.1 x.2.2.2.2.1 x.2.2.2.2.2.1 x.2.2.2.2.2.2.1 x.2.2.2.2.2.2.2.1 x.2.2.2.2.2.2.2.2.1 x.2.2.2.2.2.2.2.2.2.1 x.2.2.2.2.2.2.2.2.2.2)) (fun x => (E x.1 x.2.1 x.2.2.1 x.2.2.2.1 x.2.2.2.2.1 x.2.2.2.2.2.1 x.2.2.2.2.2.2.1 x.2.2.2.2.2.2.2.1 x.2.2.2.2.2.2.2.2.1 x.2.2.2.2.2.2.2.2.2.1 x.2.2.2.2.2.2.2.2.2.2)) (fun _ => N) (fun x => (G x.1 x.2.1 x.2.2.1 x.2.2.2.1 x.2.2.2.2.1 x.2.2.2.2.2.1 x.2.2.2.2.2.2.1 x.2.2.2.2.2.2.2.1 x.2.2.2.2.2.2.2.2.1 x.2.2.2.2.2.2.2.2.2.1 x.2.2.2.2.2.2.2.2.2.2)) (fun x => (μ x.1 x.2.1 x.2.2.1 x.2.2.2.1 x.2.2.2.2.1 x.2.2.2.2.2.1 x.2.2.2.2.2.2.1 x.2.2.2.2.2.2.2.1 x.2.2.2.2.2.2.2.2.1 x.2.2.2.2.2.2.2.2.2.1 x.2.2.2.2.2.2.2.2.2.2)) (z0,z1,z2,z3,z4,z5,z6,z7,z8,z9,z10) hI h0 fun x hx => (round x.1 x.2.1 x.2.2.1 x.2.2.2.1 x.2.2.2.2.1 x.2.2.2.2.2.1 x.2.2.2.2.2.2.1 x.2.2.2.2.2.2.2.1 x.2.2.2.2.2.2.2.2.1 x.2.2.2.2.2.2.2.2.2.1 x.2.2.2.2.2.2.2.2.2.2 hx).mono fun e env nx H h => by
    cases e with
    | normal => obtain ⟨y0,y1,y2,y3,y4,y5,y6,y7,y8,y9,y10,q1,q2,q3⟩ := h; exact ⟨(y0,y1,y2,y3,y4,y5,y6,y7,y8,y9,y10),q1,q2,q3⟩
    | exit i => exact h
    | ret => exact h
end
def HandP (H : ah) : List Nat → List Obj → Prop
  | n :: ns,o :: os => look H n = some o ∧ HandP H ns os
  | [],[] => True
  | _,_ => False
theorem HandP.get {H : ah} : ∀ {ns : List Nat}{os : List Obj},HandP H ns os → os.length = ns.length ∧ ∀ (i : Nat) n,ns[i]? = some n → ∃ o,os[i]? = some o ∧ look H n = some o
  | [],[],_ => ⟨rfl,fun i n h => by simp at h⟩
  | [],_ :: _,h => h.elim
  | _ :: _,[],h => h.elim
  | n :: ns,o :: os,h => by
    obtain ⟨h1,h2⟩ := h
    obtain ⟨k1,k2⟩ := HandP.get h2
    refine ⟨by simp [k1],fun i m hm => ?_⟩
    cases i with
    | zero => simp at hm; subst hm; exact ⟨o,rfl,h1⟩
    | succ i => simpa using k2 i m (by simpa using hm)
theorem jf {H : ah}{ns : List Nat}{os : List Obj} (hn : ns.Nodup) (h : HandP H ns os) : Handed H ns os := ⟨h.get.1,h.get.2,hn⟩
def qG : ah → Bool
  | [] => true
  | p :: t => (t.all fun q => !(q.1 == p.1)) && qG t
theorem kG {H : ah} (h : qG H = true) : Dist H := by
  induction H with
  | nil => intro n o hm; cases hm
  | cons p t ih =>
    simp only [qG,Bool.and_eq_true] at h
    intro n o hm
    rcases List.mem_cons.1 hm with e|e
    · rw [← e]; exact bQ _ _ _
    · have : p.1 ≠ n := by
        intro q
        have := List.all_eq_true.1 h.1 _ e
        simp [q] at this
      obtain ⟨k,x⟩ := p
      rw [bv _ _ this]
      exact ih h.2 n o e
section
variable {P : Program}{c : Ctx}{nx : Nat}{env : aI}{H : ah}{Q : cH}{ops : Array Oper}{rest : List Oper}{code : Code}{α : Type}{f : α → FV}{s n lo sz : Nat}{hi : Option Nat}{wr : Bool}{l l2 : List α}
theorem Cc (hb : look H n = some (.buf wr sz (l.map f))) (hv : view lo hi l = l2) : mY H (.ref n lo hi) = some (.sl sz false (l2.map f),hput H n (oB false sz f l)) := by
  simp only [mY,ml,hb]
  rw [q9,hv]
theorem gE (he : look env s = some (.ref n lo hi)) (hb : look H n = some (.buf wr sz (l.map f))) (hv : view lo hi l = l2) (h : W P c code ((s,pS sz false f l2) :: env) nx (hput H n (oB false sz f l)) Q) : W P c code env nx H Q := BH he (Cc hb hv) h
theorem gG {α : Type}{l : List α} : view 0 none l = l := by simp [view]
end
section
variable {P : Program}{tab : bR}{nx : Nat}{env : aI}{H : ah}{K : PV → Nat → ah → Prop}{t u : Nat}{x : Operand}
theorem rB {y : Operand} (n : Nat) {k k2 : IntKind}{a : Int} (h1 : ev env x = some (.f (.v (.int k a)))) (h2 : ev env y = some (.f (.v (.int k2 (n : Nat))))) (hn : n < k.bits) (h : K (pK k (a / 2 ^ n)) nx H) : stepOp P tab env nx H K (.binOp .shr t x y u) :=
  ub h1 h2 (by omega) (by rw [Int.toNat_natCast,Nat.min_eq_left (by omega),sd]; exact h)
end
section
variable {P : Program}{tab : bR}{ops : Array Oper}{B : List (List Nat)}{rest : List Oper}{acc : List Cert}{env : aI}{nx : Nat}{H : ah}{C : List Cert → aI → Nat → ah → Prop}{dst : Option Nat}{op : Op}{t : Nat}{p : String}{a : Array Edge}
theorem BG {g : Option (Nat × Bool)}{pv : PV}{nx' : Nat} (E0 : aI) (b0 : List Nat) (hR hT H1 hN Hn : ah) (hE : cutE ops ⟨dst,op,t,p,a,g⟩ env = E0) (hb : B.getD acc.length [] = b0) (h1 : sel H (hR.map Prod.fst) = hR) (h2 : sel H (hT.map Prod.fst) = hT)
    (h : stepOp P tab E0 nx (hR ++ hT) (fun a b d => a = pv ∧ b = nx' ∧ d = H1) op) (hle : Nat.ble nx nx' = true) (hs : sameH H1 hR) (e1 : drops H1 (hR.map Prod.fst) = hN) (e2 : hN ++ drops H (hT.map Prod.fst) = Hn)
    (k : dM P tab ops B rest (⟨⟨dst,op,t,p,a,g⟩,some pv,E0,hR,hT,hN,nx,nx',b0⟩ :: acc) (putE dst pv env) nx' Hn C) :
    lh P tab ops B ⟨dst,op,t,p,a,g⟩ rest acc env nx H C := by
  subst e1; subst e2; subst hE; subst hb
  refine ⟨hR.map Prod.fst,hT.map Prod.fst,pv,nx',H1, ?_,Nat.le_of_ble_eq_true hle, ?_, ?_⟩
  · rw [h1,h2]; exact h
  · rw [h1]; exact hs
  · rw [h1,h2]; exact k
theorem Cm {j d : Nat}{want b : Bool} (E0 : aI) (b0 : List Nat) (hE : cutE ops ⟨dst,op,t,p,a,some (j,want)⟩ env = E0) (hB : B.getD acc.length [] = b0) (hj : (ops[j]?).bind (·.dst) = some d) (hb : look E0 d = some (.f (.v (.bool b))))
    (h1 : b = want → lh P tab ops B ⟨dst,op,t,p,a,some (j,want)⟩ rest acc env nx H C)
    (h2 : b = (!want) → dM P tab ops B rest (⟨⟨dst,op,t,p,a,some (j,want)⟩,some aZ,E0,[],[],[],nx,nx,b0⟩ :: acc) (fQ dst env) nx H C) :
    dM P tab ops B (⟨dst,op,t,p,a,some (j,want)⟩ :: rest) acc env nx H C := by
  subst hE; subst hB
  exact CC hj hb h1 h2
end
def ReadsB (P : Program) (t : TypeId) (α : Type) (f : α → FV) (B : α → Prop) : Prop :=
  ∀ (H : Type) (enc : TypeId × Value → H) (w : World) (base : Nat) (held : Bool) (fuel : Nat) (cs : List Value) (d : DataW H) (ps : List MemPlace),DataW.trod enc P w base (fun _ => true) held fuel t cs = some (d,ps) →
    ∃ a,((∀ n ∈ d.weights P t,n ≤ reachBytes) → B a) ∧ (f a).cells.length = cs.length ∧ ∀ (j : Nat) c u,(f a).cells[j]? = some c → cs[j]? = some u → RepF w Noone c u ∧ one u = true
theorem ReadsB.of {P : Program}{t : TypeId}{α : Type}{f : α → FV}{R : (H : Type) → α → DataW H → Prop} (h : ou P t α f R) : ReadsB P t α f fun _ => True := by
  intro H enc w base held fuel cs d ps ht
  obtain ⟨a,_,h2,h3⟩ := h H enc w base held fuel cs d ps ht
  exact ⟨a,fun _ => trivial,h2,h3⟩
theorem oL {P : Program}{t : TypeId} (ht : P.underlying t = some (.int .i64)) : ReadsB P t Int ay fun n => -9223372036854775808 ≤ n ∧ n ≤ 9223372036854775807 := by
  intro H enc w base held fuel cs d ps h
  obtain ⟨⟨n,hw⟩,h1,h2,h3⟩ := vh ht H enc w base held fuel cs d ps h
  exact ⟨n,fun _ => uK hw,h2,h3⟩
theorem ReadsB.map {P : Program}{t : TypeId}{α β : Type}{f : α → FV}{g : β → FV}{B : α → Prop}{B' : β → Prop} (h : ReadsB P t α f B) (m : α → β) (hm : ∀ a,g (m a) = f a) (hb : ∀ a,B a → B' (m a)) : ReadsB P t β g B' := by
  intro H enc w base held fuel cs d ps ht
  obtain ⟨a,h1,h2,h3⟩ := h H enc w base held fuel cs d ps ht
  exact ⟨m a,fun hn => hb _ (h1 hn),by rw [hm]; exact h2,by rw [hm]; exact h3⟩
theorem kr {H : Type}{P : Program}{e : TypeId} : ∀ {es : List (DataW H)}{i : Nat}{d : DataW H},es[i]? = some d → ∀ n ∈ d.weights P e,n ∈ DataW.weightsAll P e es
  | [],i,d,h,n,hn => by simp at h
  | x :: es,0,d,h,n,hn => by
    simp only [List.getElem?_cons_zero,Option.some.injEq] at h; subst h
    simp only [DataW.weightsAll,List.mem_append]; exact .inl hn
  | x :: es,i + 1,d,h,n,hn => by
    simp only [List.getElem?_cons_succ] at h
    simp only [DataW.weightsAll,List.mem_append]; exact .inr (kr h n hn)
theorem l8 {P : Program}{t e : TypeId}{α : Type}{f : α → FV}{B : α → Prop}{m : Nat} (ht : P.underlying t = some (.slice e)) (he : ReadsB P e α f B) (n : Nat) (hn : P.cellsOf e = n) (hpos : 0 < n) (hm : P.bytesOf e = m) :
    ReadsB P t (List α) (jX n f) fun l => l.length * m ≤ 140737488351232 ∧ ∀ x ∈ l,B x := by
  have hr : ou P e α f fun H a d => (∀ n ∈ d.weights P e,n ≤ reachBytes) → B a := by
    intro H enc w base held fuel cs d ps h
    exact he H enc w base held fuel cs d ps h
  intro H enc w base held fuel cs d ps h
  obtain ⟨l,h1,h2,h3⟩ := sQ ht hr n hn hpos H enc w base held fuel cs d ps h
  refine ⟨l,fun hw => ?_,h2,h3⟩
  rcases h1 with ⟨rfl,rfl⟩|⟨es,sp,rfl,e1,e2⟩
  · simp
  · have hww : ∀ q,q ∈ ((es.length + sp.length) * P.bytesOf e :: (DataW.weightsAll P e es ++ DataW.weightsAll P e sp)) → q ≤ reachBytes := by
      intro q hq
      refine hw q ?_
      simp only [DataW.weights,ht]; exact hq
    have hr : reachBytes = 140737488351232 := by decide
    constructor
    · have := hww ((es.length + sp.length) * P.bytesOf e) (by simp)
      rw [hr,hm] at this
      rw [← e1]
      exact Nat.le_trans (Nat.mul_le_mul_right _ (by omega)) this
    · intro x hx
      obtain ⟨i,hi⟩ := List.getElem?_of_mem hx
      have hil : i < es.length := by rw [e1]; exact (List.getElem?_eq_some_iff.1 hi).1
      refine e2 i x es[i] hi (by simp [hil]) fun q hq => hww q ?_
      refine List.mem_cons_of_mem _ (List.mem_append_left _ (kr (i := i) (by simp [hil]) q hq))
theorem ReadsB.arg {P : Program}{t : TypeId}{α : Type}{f : α → FV}{B : α → Prop} (h : ReadsB P t α f B) {H : Type}{enc : TypeId × Value → H}{w : World}{base : Nat}{held : Bool}{fuel : Nat}{v : Value}{d : DataW H}{ps : List MemPlace}
    {ts : List TypeId}{ds : List (DataW H)} (hsz : (DataW.weightsEach P ts ds).all (· ≤ reachBytes) = true) {j : Nat} (ht : ts[j]? = some t) (hd : ds[j]? = some d)
    (hf : DataW.trod enc P w base (fun _ => true) held fuel t v.cells.toList = some (d,ps)) (hv : ∀ a,(f a).isAgg = true → ∃ cs,v = .agg cs) (hv2 : ∀ a,(f a).isAgg = false → v.cells = #[v]) : ∃ a,B a ∧ Rep φ00 0 w Noone (.f (f a)) v := by
  obtain ⟨a,h1,h2,h3⟩ := h H enc w base held fuel _ d ps hf
  refine ⟨a,h1 fun n hn => by simpa using List.all_eq_true.1 hsz n (DataW.weights_mem_each ht hd n hn),.f ?_⟩
  cases hq : (f a).isAgg with
  | true =>
    obtain ⟨cs,rfl⟩ := hv a hq
    cases hfa : f a with
    | agg ds =>
      rw [hfa] at h2 h3
      simp only [FV.cells,Value.cells,Array.length_toList] at h2 h3
      refine .agg ds cs h2.symm (fun i u hu => ?_) fun i c u hc hu => (h3 i c u hc (by simpa using hu)).1
      have hi : i < ds.length := by rw [h2]; exact (Array.getElem?_eq_some_iff.1 hu).1
      exact (h3 i ds[i] u (by simp [hi]) (by simpa using hu)).2
    | _ => rw [hfa] at hq; cases hq
  | false =>
    have hvv := hv2 a hq
    rw [hvv] at h3
    have hc : (f a).cells = [f a] := by cases hfa : f a <;> first|rfl|(rw [hfa] at hq; cases hq)
    exact (h3 0 (f a) v (by rw [hc]; rfl) rfl).1
open Go.Proofs.YtlcmbkkimgdnmaaGreat.Pv
abbrev AX : TI := { kd := .int .i64,size := 1,bytes := 8,zero := [.int .i64 0] }
theorem BO : TIok Tryz.prog 3 AX := TIok.of (z := (.int .i64 0)) (by kernel_rfl) rfl (fun h => by cases h) rfl Tryz.underlying3 (by decide)
abbrev AW : TI := { kd := .bool,size := 1,bytes := 1,zero := [.bool false] }
theorem BN : TIok Tryz.prog 4 AW := TIok.of (z := (.bool false)) (by kernel_rfl) rfl (fun h => by cases h) rfl Tryz.underlying4 (by decide)
abbrev AV : TI := { kd := .int .u8,size := 1,bytes := 1,zero := [.int .u8 0] }
theorem BM : TIok Tryz.prog 5 AV := TIok.of (z := (.int .u8 0)) (by kernel_rfl) rfl (fun h => by cases h) rfl Tryz.underlying5 (by decide)
abbrev AU : TI := { kd := .str,size := 1,bytes := 16,zero := [.string ⟨#[]⟩] }
theorem BL : TIok Tryz.prog 9 AU := TIok.of (z := (.string ⟨#[]⟩)) (by kernel_rfl) rfl (fun h => by cases h) rfl Tryz.underlying9 (by decide)
abbrev wP : TI := { kd := .slice 3,size := 1,bytes := 24,zero := [.slice none 0 0] }
theorem AR : TIok Tryz.prog 22 wP := TIok.of (z := (.slice none 0 0)) (by kernel_rfl) rfl (fun h => by cases h) rfl Tryz.underlying22 (by decide)
abbrev wO : TI := { kd := .int .u32,size := 1,bytes := 4,zero := [.int .u32 0] }
theorem AQ : TIok Tryz.prog 23 wO := TIok.of (z := (.int .u32 0)) (by kernel_rfl) rfl (fun h => by cases h) rfl Tryz.underlying23 (by decide)
abbrev wN : TI := { kd := .slice 83,size := 1,bytes := 24,zero := [.slice none 0 0] }
theorem AP : TIok Tryz.prog 24 wN := TIok.of (z := (.slice none 0 0)) (by kernel_rfl) rfl (fun h => by cases h) rfl Tryz.underlying24 (by decide)
abbrev wM : TI := { kd := .slice 94,size := 1,bytes := 24,zero := [.slice none 0 0] }
theorem AO : TIok Tryz.prog 25 wM := TIok.of (z := (.slice none 0 0)) (by kernel_rfl) rfl (fun h => by cases h) rfl Tryz.underlying25 (by decide)
abbrev wL : TI := { kd := .struct [(0,3),(1,23),(2,3),(3,24),(4,25)],size := 5,bytes := 72,zero := [.int .i64 0,.int .u32 0,.int .i64 0,.slice none 0 0,.slice none 0 0] }
theorem AN : TIok Tryz.prog 27 wL := TIok.of (z := (.agg #[.int .i64 0,.int .u32 0,.int .i64 0,.slice none 0 0,.slice none 0 0])) (by kernel_rfl) rfl (fun _ => rfl) rfl ⟨_,Tryz.underlying27,rfl⟩ (by decide)
abbrev wK : TI := { kd := .slice 4,size := 1,bytes := 24,zero := [.slice none 0 0] }
theorem AM : TIok Tryz.prog 29 wK := TIok.of (z := (.slice none 0 0)) (by kernel_rfl) rfl (fun h => by cases h) rfl Tryz.underlying29 (by decide)
abbrev wJ : TI := { kd := .slice 31,size := 1,bytes := 24,zero := [.slice none 0 0] }
theorem AL : TIok Tryz.prog 30 wJ := TIok.of (z := (.slice none 0 0)) (by kernel_rfl) rfl (fun h => by cases h) rfl Tryz.underlying30 (by decide)
abbrev wI : TI := { kd := .int .u16,size := 1,bytes := 2,zero := [.int .u16 0] }
theorem AK : TIok Tryz.prog 31 wI := TIok.of (z := (.int .u16 0)) (by kernel_rfl) rfl (fun h => by cases h) rfl Tryz.underlying31 (by decide)
abbrev wH : TI := { kd := .struct [(0,3),(1,3),(2,3),(3,3),(4,3),(5,29),(6,30),(7,31),(8,31)],size := 9,bytes := 96,zero := [.int .i64 0,.int .i64 0,.int .i64 0,.int .i64 0,.int .i64 0,.slice none 0 0,.slice none 0 0,.int .u16 0,.int .u16 0] }
theorem AJ : TIok Tryz.prog 33 wH := TIok.of (z := (.agg #[.int .i64 0,.int .i64 0,.int .i64 0,.int .i64 0,.int .i64 0,.slice none 0 0,.slice none 0 0,.int .u16 0,.int .u16 0])) (by kernel_rfl) rfl (fun _ => rfl) rfl ⟨_,Tryz.underlying33,rfl⟩ (by decide)
abbrev wG : TI := { kd := .struct [(0,22),(1,3)],size := 2,bytes := 32,zero := [.slice none 0 0,.int .i64 0] }
theorem AI : TIok Tryz.prog 36 wG := TIok.of (z := (.agg #[.slice none 0 0,.int .i64 0])) (by kernel_rfl) rfl (fun _ => rfl) rfl ⟨_,Tryz.underlying36,rfl⟩ (by decide)
abbrev wF : TI := { kd := .slice 5,size := 1,bytes := 24,zero := [.slice none 0 0] }
theorem AH : TIok Tryz.prog 38 wF := TIok.of (z := (.slice none 0 0)) (by kernel_rfl) rfl (fun h => by cases h) rfl Tryz.underlying38 (by decide)
abbrev wE : TI := { kd := .struct [(0,3),(1,3),(2,3),(3,3),(4,3),(5,29),(6,30),(7,31),(8,31),(9,38)],size := 10,bytes := 120,zero := [.int .i64 0,.int .i64 0,.int .i64 0,.int .i64 0,.int .i64 0,.slice none 0 0,.slice none 0 0,.int .u16 0,.int .u16 0,.slice none 0 0] }
theorem AG : TIok Tryz.prog 40 wE := TIok.of (z := (.agg #[.int .i64 0,.int .i64 0,.int .i64 0,.int .i64 0,.int .i64 0,.slice none 0 0,.slice none 0 0,.int .u16 0,.int .u16 0,.slice none 0 0])) (by kernel_rfl) rfl (fun _ => rfl) rfl ⟨_,Tryz.underlying40,rfl⟩ (by decide)
abbrev wD : TI := { kd := .slice 40,size := 1,bytes := 24,zero := [.slice none 0 0] }
theorem AF : TIok Tryz.prog 42 wD := TIok.of (z := (.slice none 0 0)) (by kernel_rfl) rfl (fun h => by cases h) rfl Tryz.underlying42 (by decide)
abbrev wC : TI := { kd := .slice 27,size := 1,bytes := 24,zero := [.slice none 0 0] }
theorem AE : TIok Tryz.prog 55 wC := TIok.of (z := (.slice none 0 0)) (by kernel_rfl) rfl (fun h => by cases h) rfl Tryz.underlying55 (by decide)
abbrev wB : TI := { kd := .struct [(0,3),(1,55)],size := 2,bytes := 32,zero := [.int .i64 0,.slice none 0 0] }
theorem AD : TIok Tryz.prog 57 wB := TIok.of (z := (.agg #[.int .i64 0,.slice none 0 0])) (by kernel_rfl) rfl (fun _ => rfl) rfl ⟨_,Tryz.underlying57,rfl⟩ (by decide)
abbrev wA : TI := { kd := .slice 68,size := 1,bytes := 24,zero := [.slice none 0 0] }
theorem AC : TIok Tryz.prog 61 wA := TIok.of (z := (.slice none 0 0)) (by kernel_rfl) rfl (fun h => by cases h) rfl Tryz.underlying61 (by decide)
abbrev wz : TI := { kd := .struct [(0,33),(9,4)],size := 10,bytes := 104,zero := [.int .i64 0,.int .i64 0,.int .i64 0,.int .i64 0,.int .i64 0,.slice none 0 0,.slice none 0 0,.int .u16 0,.int .u16 0,.bool false] }
theorem AB : TIok Tryz.prog 68 wz := TIok.of (z := (.agg #[.int .i64 0,.int .i64 0,.int .i64 0,.int .i64 0,.int .i64 0,.slice none 0 0,.slice none 0 0,.int .u16 0,.int .u16 0,.bool false])) (by kernel_rfl) rfl (fun _ => rfl) rfl ⟨_,Tryz.underlying68,rfl⟩ (by decide)
abbrev wy : TI := { kd := .slice 73,size := 1,bytes := 24,zero := [.slice none 0 0] }
theorem AA : TIok Tryz.prog 70 wy := TIok.of (z := (.slice none 0 0)) (by kernel_rfl) rfl (fun h => by cases h) rfl Tryz.underlying70 (by decide)
abbrev wx : TI := { kd := .struct [(0,33),(9,4)],size := 10,bytes := 104,zero := [.int .i64 0,.int .i64 0,.int .i64 0,.int .i64 0,.int .i64 0,.slice none 0 0,.slice none 0 0,.int .u16 0,.int .u16 0,.bool false] }
theorem Az : TIok Tryz.prog 73 wx := TIok.of (z := (.agg #[.int .i64 0,.int .i64 0,.int .i64 0,.int .i64 0,.int .i64 0,.slice none 0 0,.slice none 0 0,.int .u16 0,.int .u16 0,.bool false])) (by kernel_rfl) rfl (fun _ => rfl) rfl ⟨_,Tryz.underlying73,rfl⟩ (by decide)
abbrev wv : TI := { kd := .int .u64,size := 1,bytes := 8,zero := [.int .u64 0] }
theorem Ay : TIok Tryz.prog 75 wv := TIok.of (z := (.int .u64 0)) (by kernel_rfl) rfl (fun h => by cases h) rfl Tryz.underlying75 (by decide)
abbrev wu : TI := { kd := .slice 107,size := 1,bytes := 24,zero := [.slice none 0 0] }
theorem Ax : TIok Tryz.prog 76 wu := TIok.of (z := (.slice none 0 0)) (by kernel_rfl) rfl (fun h => by cases h) rfl Tryz.underlying76 (by decide)
abbrev wt : TI := { kd := .struct [(0,3),(1,3),(2,3),(3,3)],size := 4,bytes := 32,zero := [.int .i64 0,.int .i64 0,.int .i64 0,.int .i64 0] }
theorem Aw : TIok Tryz.prog 83 wt := TIok.of (z := (.agg #[.int .i64 0,.int .i64 0,.int .i64 0,.int .i64 0])) (by kernel_rfl) rfl (fun _ => rfl) rfl ⟨_,Tryz.underlying83,rfl⟩ (by decide)
abbrev wq : TI := { kd := .struct [(0,3),(1,3)],size := 2,bytes := 16,zero := [.int .i64 0,.int .i64 0] }
theorem Av : TIok Tryz.prog 94 wq := TIok.of (z := (.agg #[.int .i64 0,.int .i64 0])) (by kernel_rfl) rfl (fun _ => rfl) rfl ⟨_,Tryz.underlying94,rfl⟩ (by decide)
abbrev wo : TI := { kd := .slice 100,size := 1,bytes := 24,zero := [.slice none 0 0] }
theorem Au : TIok Tryz.prog 96 wo := TIok.of (z := (.slice none 0 0)) (by kernel_rfl) rfl (fun h => by cases h) rfl Tryz.underlying96 (by decide)
abbrev t7 : TI := { kd := .struct [(0,3),(1,3),(2,3)],size := 3,bytes := 24,zero := [.int .i64 0,.int .i64 0,.int .i64 0] }
theorem yE : TIok Tryz.prog 100 t7 := TIok.of (z := (.agg #[.int .i64 0,.int .i64 0,.int .i64 0])) (by kernel_rfl) rfl (fun _ => rfl) rfl ⟨_,Tryz.underlying100,rfl⟩ (by decide)
abbrev t6 : TI := { kd := .struct [(0,3),(1,3),(2,3)],size := 3,bytes := 24,zero := [.int .i64 0,.int .i64 0,.int .i64 0] }
theorem yD : TIok Tryz.prog 107 t6 := TIok.of (z := (.agg #[.int .i64 0,.int .i64 0,.int .i64 0])) (by kernel_rfl) rfl (fun _ => rfl) rfl ⟨_,Tryz.underlying107,rfl⟩ (by decide)
abbrev t5 : TI := { kd := .arr 4 3,size := 4,bytes := 32,zero := [.int .i64 0,.int .i64 0,.int .i64 0,.int .i64 0] }
theorem yC : TIok Tryz.prog 124 t5 := TIok.of (z := (.agg #[.int .i64 0,.int .i64 0,.int .i64 0,.int .i64 0])) (by kernel_rfl) rfl (fun _ => rfl) rfl Tryz.underlying124 (by decide)
abbrev t4 : TI := { kd := .slice 131,size := 1,bytes := 24,zero := [.slice none 0 0] }
theorem yB : TIok Tryz.prog 128 t4 := TIok.of (z := (.slice none 0 0)) (by kernel_rfl) rfl (fun h => by cases h) rfl Tryz.underlying128 (by decide)
abbrev t0 : TI := { kd := .struct [(0,3),(1,3)],size := 2,bytes := 16,zero := [.int .i64 0,.int .i64 0] }
theorem yA : TIok Tryz.prog 131 t0 := TIok.of (z := (.agg #[.int .i64 0,.int .i64 0])) (by kernel_rfl) rfl (fun _ => rfl) rfl ⟨_,Tryz.underlying131,rfl⟩ (by decide)
abbrev tZ : TI := { kd := .slice 138,size := 1,bytes := 24,zero := [.slice none 0 0] }
theorem yz : TIok Tryz.prog 137 tZ := TIok.of (z := (.slice none 0 0)) (by kernel_rfl) rfl (fun h => by cases h) rfl Tryz.underlying137 (by decide)
abbrev tY : TI := { kd := .struct [(0,3),(1,3)],size := 2,bytes := 16,zero := [.int .i64 0,.int .i64 0] }
theorem yy : TIok Tryz.prog 138 tY := TIok.of (z := (.agg #[.int .i64 0,.int .i64 0])) (by kernel_rfl) rfl (fun _ => rfl) rfl ⟨_,Tryz.underlying138,rfl⟩ (by decide)
def AY : List (Nat × TI) := [(3,AX),(4,AW),(5,AV),(9,AU),(22,wP),(23,wO),(24,wN),(25,wM),(27,wL),(29,wK),(30,wJ),(31,wI),(33,wH),(36,wG),(38,wF),(40,wE),(42,wD),(55,wC),(57,wB),(61,wA),(68,wz),(70,wy),(73,wx),(75,wv),(76,wu),(83,wt),(94,wq),(96,wo),(100,t7),(107,t6),(124,t5),(128,t4),(131,t0),(137,tZ),(138,tY)]
def tab : bR := look AY
theorem aD : tab 3 = some AX := by rfl
theorem dE : tab 4 = some AW := by rfl
theorem tab_5 : tab 5 = some AV := by rfl
theorem mC : tab 9 = some AU := by rfl
theorem ew : tab 22 = some wP := by rfl
theorem jS : tab 23 = some wO := by rfl
theorem cT : tab 24 = some wN := by rfl
theorem lU : tab 25 = some wM := by rfl
theorem dG : tab 27 = some wL := by rfl
theorem bT : tab 29 = some wK := by rfl
theorem bf : tab 30 = some wJ := by rfl
theorem bE : tab 31 = some wI := by rfl
theorem bc : tab 33 = some wH := by rfl
theorem rj : tab 36 = some wG := by rfl
theorem tab_38 : tab 38 = some wF := by rfl
theorem aM : tab 40 = some wE := by rfl
theorem de : tab 42 = some wD := by rfl
theorem iX : tab 55 = some wC := by rfl
theorem gK : tab 57 = some wB := by rfl
theorem fC : tab 61 = some wA := by rfl
theorem fU : tab 68 = some wz := by rfl
theorem gJ : tab 70 = some wy := by rfl
theorem gI : tab 73 = some wx := by rfl
theorem jR : tab 75 = some wv := by rfl
theorem gH : tab 76 = some wu := by rfl
theorem cS : tab 83 = some wt := by rfl
theorem lT : tab 94 = some wq := by rfl
theorem fT : tab 96 = some wo := by rfl
theorem gU : tab 100 = some t7 := by rfl
theorem gT : tab 107 = some t6 := by rfl
theorem dF : tab 124 = some t5 := by rfl
theorem fa : tab 128 = some t4 := by rfl
theorem dy : tab 131 = some t0 := by rfl
theorem ei : tab 137 = some tZ := by rfl
theorem db : tab 138 = some tY := by rfl
theorem aF : TabOk Tryz.prog tab := TabOk.of (by
  simp only [qK,AY]
  exact ⟨BO,BN,BM,BL,AR,AQ,AP,AO,AN,AM,AL,AK,AJ,AI,AH,AG,AF,AE,AD,AC,AB,AA,Az,Ay,Ax,Aw,Av,Au,yE,yD,yC,yB,yA,yz,yy,trivial⟩)
theorem yK : ∀ e ie,tab e = some ie → ie.kd.agg = false → ie.size = 1 := sT (by decide)
theorem yN : SEq Tryz.prog 131 [(0,3),(1,3)] := ⟨_,Tryz.underlying131,rfl,by decide,by kernel_rfl,by kernel_rfl⟩
theorem yM : SEq Tryz.prog 138 [(0,3),(1,3)] := ⟨_,Tryz.underlying138,rfl,by decide,by kernel_rfl,by kernel_rfl⟩
theorem Ca : Tryz.prog.follows .mixedOrders = true := by kernel_rfl
section
variable {P : Program}{Q Q' : Exit → Act → World → Prop}
theorem mX (hq : ∀ e a w,e ≠ .normal → Q e a w → Q' e a w) (h : LetsOut Q) : LetsOut Q' := by
  obtain ⟨a,w,h⟩ := h
  exact ⟨a,w,hq _ _ _ (by simp) h⟩
theorem Al {o : Oper}{a : Act}{w : World}{K K' : Act → World → Prop} (hq : ∀ e a w,e ≠ .normal → Q e a w → Q' e a w) (h : ∀ a w,K a w → K' a w)
    (hh : o.wp P a w K Q) : o.wp P a w K' Q' := by
  unfold Oper.wp at *
  generalize (execOp a.eval o).run P w = r at *
  cases r with
  | ok n w' =>
    cases n <;> simp only [Oper.upon] at hh ⊢ <;>
      first
        | exact h _ _ hh
        | exact Calls.mono hh (fun e w'' he => by cases e <;> first|exact h _ _ he|exact hq _ _ _ (by simp) he|exact mX hq he)
        | exact Rows.mono hh (fun _ _ he => h _ _ he)
  | halt x w' => cases x <;> simp only [Oper.upon] at hh ⊢ <;> first|exact hh|exact hq _ _ _ (by simp) hh
theorem kN {ops : Array Oper} : ∀ (n : Nat) (l : List Oper) (a : Act) (w : World),(∀ e a w,e ≠ .normal → Q e a w → Q' e a w) → (∀ a w,Q .normal a w → wpList P ops Q' (l.drop n) a w) →
    wpList P ops Q (l.take n) a w → wpList P ops Q' l a w
  | 0,l,a,w,hq,hn,h => hn a w h
  | n + 1,[],a,w,hq,hn,h => hn a w h
  | n + 1,o :: l,a,w,hq,hn,h => by
    simp only [List.take_succ_cons,wpList] at h ⊢
    split
    · rename_i hw
      rw [if_pos hw] at h
      rcases h with h|h
      · exact .inl (Al hq (fun a w => kN n l a w hq hn) h)
      · exact .inr ⟨h.1,mX hq h.2⟩
    · rename_i hw
      rw [if_neg hw] at h
      exact kN n l _ w hq hn h
end
section
variable {P : Program}{c : Ctx}{nx : Nat}{env : aI}{H : ah}{Q : cH}{ops : Array Oper}{l : List Oper}
theorem uG (n : Nat) {mid : aI → Nat → ah → Prop} (h1 : R P c ops (l.take n) env nx H (thenP mid Q)) (h2 : ∀ env nx H,mid env nx H → R P c ops (l.drop n) env nx H Q) : R P c ops l env nx H Q := by
  intro φ tmps w hs
  refine kN n l (act tmps) w ?_ ?_ (h1 φ tmps w hs)
  · rintro e a w he ⟨x,env,nx,H,φ,e1,e2,e3,e4⟩
    refine ⟨x,env,nx,H,φ,e1,e2,e3, ?_⟩
    cases x with
    | normal => exact absurd e1 he
    | exit i => exact e4
    | ret => exact e4
  · rintro a w ⟨x,env,nx,H,φ,e1,e2,e3,e4⟩
    cases x with
    | exit i => cases e1
    | ret => cases e1
    | normal =>
      have := h2 env nx H e4 φ a.tmps w e3
      obtain ⟨tm,df⟩ := a
      simp only at e2
      subst e2
      exact this
theorem cy (n : Nat) (E : aI) (h1 : R P c ops (l.take n) env nx H (thenP (fun env' nx' H' => SubE E env' ∧ nx' = nx ∧ H' = H) Q)) (h2 : R P c ops (l.drop n) E nx H Q) : R P c ops l env nx H Q :=
  uG n h1 fun env' nx' H' h => by
    obtain ⟨a,b,d⟩ := h
    subst b; subst d
    exact aE E H' nx' a rfl rfl h2
theorem bC {mid : aI → Nat → ah → Prop} (h : mid env nx H) : R P c ops [] env nx H (thenP mid Q) := bG h
end
section
variable {P : Program}{tab : bR}{nx : Nat}{env : aI}{H : ah}{K : PV → Nat → ah → Prop}
theorem sB : (∀ (p : Prop) [Decidable p],(decide p = true) = p) ∧ (∀ (p : Prop) [Decidable p],(decide p = false) = ¬p) ∧ (∀ b : Bool,((!b) = true) = (b = false)) ∧ (∀ b : Bool,((!b) = false) = (b = true)) ∧ ((!true) = false) ∧ ((!false) = true) ∧ (∀ a b : Int,(¬a < b) = (b ≤ a)) ∧ (∀ a b : Int,(¬a ≤ b) = (b < a)) :=
  ⟨fun p _ => by simp,fun p _ => by simp,fun b => by simp,fun b => by simp,rfl,rfl,fun a b => by simp,fun a b => by simp⟩
theorem dI {x u : Bool} (h : x = true) : pB u = pB (x && u) := by subst h; rfl
theorem dJ {x : Bool} (u : Bool) (h : x = false) : pB false = pB (x && u) := by subst h; rfl
theorem dz {x : Bool} (u : Bool) (h : x = true) : pB true = pB (x || u) := by subst h; rfl
theorem dA {x u : Bool} (h : x = false) : pB u = pB (x || u) := by subst h; rfl
end
def ReadsK (S : {H : Type} → DataW H → Prop) (P : Program) (t : TypeId) (α : Type) (f : α → FV) (B : α → Prop) : Prop :=
  ∀ (H : Type) (enc : TypeId × Value → H) (w : World) (base : Nat) (held : Bool) (fuel : Nat) (cs : List Value) (d : DataW H) (ps : List MemPlace),DataW.trod enc P w base (fun _ => true) held fuel t cs = some (d,ps) →
    ∃ a,(S d → B a) ∧ (f a).cells.length = cs.length ∧ ∀ (j : Nat) c u,(f a).cells[j]? = some c → cs[j]? = some u → RepF w Noone c u ∧ one u = true
section
variable {S : {H : Type} → DataW H → Prop}
theorem ReadsK.map {P : Program}{t : TypeId}{α β : Type}{f : α → FV}{g : β → FV}{B : α → Prop}{B' : β → Prop} (h : ReadsK S P t α f B) (m : α → β) (hm : ∀ a,g (m a) = f a) (hb : ∀ a,B a → B' (m a)) : ReadsK S P t β g B' := by
  intro H enc w base held fuel cs d ps ht
  obtain ⟨a,h1,h2,h3⟩ := h H enc w base held fuel cs d ps ht
  exact ⟨m a,fun hn => hb _ (h1 hn),by rw [hm]; exact h2,by rw [hm]; exact h3⟩
theorem ReadsK.arg {P : Program}{t : TypeId}{α : Type}{f : α → FV}{B : α → Prop} (h : ReadsK S P t α f B) {H : Type}{enc : TypeId × Value → H}{w : World}{base : Nat}{held : Bool}{fuel : Nat}{v : Value}{d : DataW H}{ps : List MemPlace}
    (hsm : S d) (hf : DataW.trod enc P w base (fun _ => true) held fuel t v.cells.toList = some (d,ps)) (hv : ∀ a,(f a).isAgg = true → ∃ cs,v = .agg cs) (hv2 : ∀ a,(f a).isAgg = false → v.cells = #[v]) : ∃ a,B a ∧ Rep φ00 0 w Noone (.f (f a)) v := by
  obtain ⟨a,h1,h2,h3⟩ := h H enc w base held fuel _ d ps hf
  refine ⟨a,h1 hsm,.f ?_⟩
  cases hq : (f a).isAgg with
  | true =>
    obtain ⟨cs,rfl⟩ := hv a hq
    cases hfa : f a with
    | agg ds =>
      rw [hfa] at h2 h3
      simp only [FV.cells,Value.cells,Array.length_toList] at h2 h3
      refine .agg ds cs h2.symm (fun i u hu => ?_) fun i c u hc hu => (h3 i c u hc (by simpa using hu)).1
      have hi : i < ds.length := by rw [h2]; exact (Array.getElem?_eq_some_iff.1 hu).1
      exact (h3 i ds[i] u (by simp [hi]) (by simpa using hu)).2
    | _ => rw [hfa] at hq; cases hq
  | false =>
    have hvv := hv2 a hq
    rw [hvv] at h3
    have hc : (f a).cells = [f a] := by cases hfa : f a <;> first|rfl|(rw [hfa] at hq; cases hq)
    exact (h3 0 (f a) v (by rw [hc]; rfl) rfl).1
end
section
variable {P : Program}{tab : bR}{nx : Nat}{env : aI}{H H' : ah}{K : PV → Nat → ah → Prop}
theorem rG {β : Type}{p : β → Prop}{f : Operand}{args : Array Operand}{ts : Array Nat}{g : Nat}{caps ps : List PV}{r : β → PV}{k0 : Nat}{H0 : β → ah} (ns : List Nat) {os : List Obj} (h1 : ev env f = some (.clo (.func g) caps)) (h2 : evs env args.toList = some ps)
    (h3 : Handed (passes ns H (allArgs ps caps)).2 ns os) (h3' : (ns.all fun n => decide (n < nx)) = true) (h4 : ((passes ns H (allArgs ps caps)).1.all (has fun n => ns.contains n)) = true) (h5 : (os.all (hasO fun n => ns.contains n)) = true)
    (ht : T P g ((passes ns H (allArgs ps caps)).1.map (ren (tau ns))) ns.length (mkH 0 (os.map (renO (tau ns)))) (fun a b d => ∃ x,p x ∧ Ret (r x) k0 (H0 x) a b d)) (hr : ∀ x,has (fun _ => true) (r x) = true) (hd : ∀ x,Dist (H0 x)) (ho : ∀ x,((H0 x).all fun p => hasO (fun _ => true) p.2) = true)
    (h : ∀ x,p x → K (ren (sig ns nx) (r x)) (nx + (k0 - ns.length)) (renH (sig ns nx) (H0 x) ++ drops (passes ns H (allArgs ps caps)).2 ns)) : stepOp P tab env nx H K (.call { callee := .value f,args := args,argTypes := ts }) := by
  refine (⟨g,caps,ps,ns,os,h1,h2,h3,fun i n hi => ?_,h4,h5, ?_⟩ : jT P env H nx K f args.toList)
  · have := List.all_eq_true.1 h3' n (List.mem_of_getElem? hi); simpa using this
  · refine ht.mono fun r' k' Hr hq => ?_
    obtain ⟨x,hx,rfl,rfl,rfl⟩ := hq
    exact ⟨⟨hd x,fun n o h => List.all_eq_true.1 (ho x) _ h,hr x⟩,h x hx⟩
theorem w5 {A0 : Type}{p : A0 → Prop}{f : Operand}{args : Array Operand}{ts : Array Nat}{g : Nat}{caps ps ps2 : List PV}{r r2 : A0 → PV}{k0 k nx1 : Nat}{H1 H2 : ah}{H0 H3 : A0 → ah} (ns : List Nat) (os : List Obj) (h1 : ev env f = some (.clo (.func g) caps)) (h2 : evs env args.toList = some ps)
    (hp : passes ns H (ps ++ caps) = (ps2,H2)) (h3 : Handed H2 ns os) (h3' : (ns.all fun n => decide (n < nx)) = true) (h4 : (ps2.all (has fun n => ns.contains n)) = true) (h5 : (os.all (hasO fun n => ns.contains n)) = true)
    (hk : ns.length = k) (hH : mkH 0 (os.map (renO (tau ns))) = H1) {ps3 : List PV} (h6 : ps2.map (ren (tau ns)) = ps3) (ht : T P g ps3 k H1 (fun a b d => ∃ x0,p x0 ∧ Ret (r x0) k0 (H0 x0) a b d)) (hr : ∀ x0,has (fun _ => true) (r x0) = true) (hd : ∀ x0,Dist (H0 x0)) (ho : ∀ x0,((H0 x0).all fun p => hasO (fun _ => true) p.2) = true)
    (e1 : ∀ x0,ren (sig ns nx) (r x0) = r2 x0) (e2 : nx + (k0 - k) = nx1) (e3 : ∀ x0,renH (sig ns nx) (H0 x0) ++ drops H2 ns = H3 x0) (h : ∀ x0,p x0 → K (r2 x0) nx1 (H3 x0)) : stepOp P tab env nx H K (.call { callee := .value f,args := args,argTypes := ts }) := by
  subst hk; subst hH; subst h6; subst e2
  have q1 : (passes ns H (allArgs ps caps)).1 = ps2 := by unfold allArgs; rw [hp]
  have q2 : (passes ns H (allArgs ps caps)).2 = H2 := by unfold allArgs; rw [hp]
  refine rG (β := A0) (p := fun x => p x) (r := fun x => r x) (H0 := fun x => H0 x) ns h1 h2 (by rw [q2]; exact h3) h3' (by rw [q1]; exact h4) h5 (by rw [q1]; exact ht.post fun a b d ⟨x0,y⟩ => ⟨x0,y⟩) (fun x => hr x) (fun x => hd x) (fun x => ho x) fun x hx => ?_
  rw [q2]
  have := h x hx
  rw [← e1,← e3] at this
  exact this
theorem nc {A0 : Type}{A1 : Type}{p : A0 → A1 → Prop}{f : Operand}{args : Array Operand}{ts : Array Nat}{g : Nat}{caps ps ps2 : List PV}{r r2 : A0 → A1 → PV}{k0 k nx1 : Nat}{H1 H2 : ah}{H0 H3 : A0 → A1 → ah} (ns : List Nat) (os : List Obj) (h1 : ev env f = some (.clo (.func g) caps)) (h2 : evs env args.toList = some ps)
    (hp : passes ns H (ps ++ caps) = (ps2,H2)) (h3 : Handed H2 ns os) (h3' : (ns.all fun n => decide (n < nx)) = true) (h4 : (ps2.all (has fun n => ns.contains n)) = true) (h5 : (os.all (hasO fun n => ns.contains n)) = true)
    (hk : ns.length = k) (hH : mkH 0 (os.map (renO (tau ns))) = H1) {ps3 : List PV} (h6 : ps2.map (ren (tau ns)) = ps3) (ht : T P g ps3 k H1 (fun a b d => ∃ x0,∃ x1,p x0 x1 ∧ Ret (r x0 x1) k0 (H0 x0 x1) a b d)) (hr : ∀ x0 x1,has (fun _ => true) (r x0 x1) = true) (hd : ∀ x0 x1,Dist (H0 x0 x1)) (ho : ∀ x0 x1,((H0 x0 x1).all fun p => hasO (fun _ => true) p.2) = true)
    (e1 : ∀ x0 x1,ren (sig ns nx) (r x0 x1) = r2 x0 x1) (e2 : nx + (k0 - k) = nx1) (e3 : ∀ x0 x1,renH (sig ns nx) (H0 x0 x1) ++ drops H2 ns = H3 x0 x1) (h : ∀ x0 x1,p x0 x1 → K (r2 x0 x1) nx1 (H3 x0 x1)) : stepOp P tab env nx H K (.call { callee := .value f,args := args,argTypes := ts }) := by
  subst hk; subst hH; subst h6; subst e2
  have q1 : (passes ns H (allArgs ps caps)).1 = ps2 := by unfold allArgs; rw [hp]
  have q2 : (passes ns H (allArgs ps caps)).2 = H2 := by unfold allArgs; rw [hp]
  refine rG (β := A0 × A1) (p := fun x => p x.1 x.2) (r := fun x => r x.1 x.2) (H0 := fun x => H0 x.1 x.2) ns h1 h2 (by rw [q2]; exact h3) h3' (by rw [q1]; exact h4) h5 (by rw [q1]; exact ht.post fun a b d ⟨x0,x1,y⟩ => ⟨(x0,x1),y⟩) (fun x => hr x.1 x.2) (fun x => hd x.1 x.2) (fun x => ho x.1 x.2) fun x hx => ?_
  rw [q2]
  have := h x.1 x.2 hx
  rw [← e1,← e3] at this
  exact this
end
section
variable {P : Program}{tab : bR}{c : Ctx}{nx : Nat}{env : aI}{H : ah}{K : PV → Nat → ah → Prop}{o : Oper}
theorem be {x y z : PV} (h : PV.le x y) (h2 : PV.le y z) : PV.le x z := fun φ nx w S v hv => h2 φ nx w S v (h φ nx w S v hv)
theorem xX {G : Act → World → Prop}{n : Nat}{cs ds : List PV} (hl : look H n = some (.obj cs)) (hle : LeL cs ds) (h : V c G env nx (hput H n (.obj ds))) : V c G env nx H := fun φ tmps w hs => by
  obtain ⟨k1,k2⟩ := hle.get
  exact h φ tmps w (hs.leCells hl k1 fun i a b ha hb v hr => k2 i a b ha hb _ _ _ _ _ hr)
theorem bH {code : Code}{Q : cH}{n : Nat}{cs ds : List PV} (hl : look H n = some (.obj cs)) (hle : LeL cs ds) (h : W P c code env nx (hput H n (.obj ds)) Q) : W P c code env nx H Q := xX hl hle h
theorem eF {ops : Array Oper}{rest : List Oper}{Q : cH}{n : Nat}{cs ds : List PV} (hl : look H n = some (.obj cs)) (hle : LeL cs ds) (h : R P c ops rest env nx (hput H n (.obj ds)) Q) : R P c ops rest env nx H Q := xX hl hle h
end
theorem wi {k : IntKind} (hk : k.signed = false) (x : Int) : 0 ≤ k.wrap x := by
  simp only [IntKind.wrap,hk,Bool.false_and,Bool.false_eq_true,if_false]
  exact Int.emod_nonneg _ (by have : (0:Int) < 2 ^ k.bits := Int.pow_pos (by decide); omega)
section
variable {P : Program}{tab : bR}{c : Ctx}{ops : Array Oper}
def CA (P : Program) (c : Ctx) (ops : Array Oper) (Q : cH) : cH
  | .normal,env,nx,H => R P c ops [] env nx H Q
  | x,env,nx,H => Q x env nx H
theorem xS (ht : TabOk P tab) (hm : P.follows .mixedOrders = true) {id nt : Nat}{Q : cH}{env : aI}{nx : Nat}{H : ah} (hnt : c.nt = nt) (B : List (List Nat)) (hB : uD ops B = true)
    (h : dM P tab ops B ops.toList [] env nx H (fun cs env' N H' => j8 nt nx N env H cs = true ∧ R P c ops [] env' N H' Q)) : W P c (.region id ops true) env nx H Q := by
  have h2 := Ad (Q := CA P c ops Q) ht hm (id := id) hnt B hB h
  refine fun φ tmps w hs => Code.wp_mono (fun e a w' hp => ?_) (h2 φ tmps w hs)
  obtain ⟨x,env',nx',H',φ',h1,h3,h4,h5⟩ := hp
  obtain ⟨t,d⟩ := a
  cases h3
  cases x with
  | normal => subst h1; exact h5 φ' t w' h4
  | ret => exact ⟨_,env',nx',H',φ',h1,rfl,h4,h5⟩
  | exit i => exact ⟨_,env',nx',H',φ',h1,rfl,h4,h5⟩
end
section
variable {P : Program}{tab : bR}{ops : Array Oper}{B : List (List Nat)}{rest : List Oper}{acc : List Cert}{env : aI}{nx : Nat}{H : ah}{C : List Cert → aI → Nat → ah → Prop}{dst : Option Nat}{op : Op}{t : Nat}{p : String}{a : Array Edge}
end
section
variable {P : Program}{tab : bR}{nx : Nat}{env : aI}{H : ah}{K : PV → Nat → ah → Prop}{t u e sz n lo : Nat}{x y : Operand}{α : Type}{f : α → FV}{i ie : TI}{l xs : List α}
end
theorem fX {tab : bR}{env : aI}{fs : List (Nat × Nat)}{C : List PV → Prop}{cs cs' : List PV} (e : cs = cs') (h : C cs') : fl tab env fs C [] cs := by subst e; exact dp h
section
variable {P : Program}{tab : bR}{nx : Nat}{env : aI}{H : ah}{K : PV → Nat → ah → Prop}{t kt et r n : Nat}{x y z : Operand}{es : List (Int × Int)}{a b : Int}
end
inductive XA where
  | o (n : Nat)
  | b (n : Nat) (us : List XA)
  | c (v : PV)
def AllP : List Prop → Prop
  | [] => True
  | p :: ps => p ∧ AllP ps
theorem AllP.left {a b : List Prop} (h : AllP (a ++ b)) : AllP a := by
  induction a with
  | nil => trivial
  | cons p t ih => exact ⟨h.1,ih h.2⟩
theorem AllP.right {a b : List Prop} (h : AllP (a ++ b)) : AllP b := by
  induction a with
  | nil => exact h
  | cons p t ih => exact ih h.2
def bu (x : Int) : Prop := -9223372036854775808 ≤ x ∧ x ≤ 9223372036854775807
def we (op : BinOp) (kd : Kd) : Value → Value → Option (List Prop × Value)
  | .int k a,.int k' b =>
    match decide (k = k') with
    | false => none
    | true =>
      match op with
      | .eql => some ([],.bool (decide (a = b)))
      | .neq => some ([],.bool (!decide (a = b)))
      | .lss => some ([],.bool (decide (a < b)))
      | .leq => some ([],.bool (decide (a ≤ b)))
      | .gtr => some ([],.bool (decide (b < a)))
      | .geq => some ([],.bool (decide (b ≤ a)))
      | .add => match decide (k = .i64) with|true => some ([bu (a + b)],.int .i64 (a + b))|false => none
      | .sub => match decide (k = .i64) with|true => some ([bu (a - b)],.int .i64 (a - b))|false => none
      | .mul => match decide (k = .i64) with|true => some ([bu (a * b)],.int .i64 (a * b))|false => none
      | _ => none
  | .bool a,.bool b =>
    match kd,op with
    | .bool,.eql => some ([],.bool (a == b))
    | .bool,.neq => some ([],.bool (!(a == b)))
    | _,_ => none
  | .pointer none,.pointer none =>
    match kd,op with
    | .ptr _,.eql => some ([],.bool true)
    | .ptr _,.neq => some ([],.bool false)
    | _,_ => none
  | _,_ => none
theorem yp {op : BinOp}{kd : Kd}{a b r : Value}{cs : List Prop}{C : Value → Prop} (h : we op kd a b = some (cs,r)) (hc : AllP cs) (k : C r) : gV op kd C a b := by
  unfold we at h
  split at h
  · rename_i k1 x k2 y
    split at h
    · cases h
    · rename_i hk
      have hk := of_decide_eq_true hk
      subst hk
      split at h
      · cases h; exact ⟨rfl,k⟩
      · cases h; exact ⟨rfl,k⟩
      · cases h; exact ⟨rfl,k⟩
      · cases h; exact ⟨rfl,k⟩
      · cases h; exact ⟨rfl,k⟩
      · cases h; exact ⟨rfl,k⟩
      · split at h
        · rename_i he; have he := of_decide_eq_true he; subst he; cases h; exact ⟨rfl,by rw [wrap_i64 hc.1]; exact k⟩
        · cases h
      · split at h
        · rename_i he; have he := of_decide_eq_true he; subst he; cases h; exact ⟨rfl,by rw [wrap_i64 hc.1]; exact k⟩
        · cases h
      · split at h
        · rename_i he; have he := of_decide_eq_true he; subst he; cases h; exact ⟨rfl,by rw [wrap_i64 hc.1]; exact k⟩
        · cases h
      · cases h
  · split at h
    · cases h; exact k
    · cases h; exact k
    · cases h
  · split at h
    · cases h; exact k
    · cases h; exact k
    · cases h
  · cases h
def ptrB : PV → Bool
  | .ptr ..|.ep ..|.f (.ro _) => true
  | _ => false
theorem ptrB_guess {H : ah}{e : Nat}{pv : PV} (h : ptrB pv = true) : nilGuess H (.ptr e) pv := by
  cases pv with
  | f z => cases z <;> simp_all [ptrB,nilGuess]
  | _ => simp_all [ptrB,nilGuess]
def uJ (tab : bR) (env : aI) (op : BinOp) (t : Nat) (x y : Operand) : Option (List Prop × PV) :=
  match ev env x with
  | some (.f (.v a)) => (match ev env y with
    | some (.f (.v b)) => (we op ((tab t).elim .other (·.kd)) a b).map fun p => (p.1,.f (.v p.2))
    | _ => none)
  | some pv => (match ptrB pv with
    | true => (match tab t with
      | some i => (match i.kd with
        | .ptr e => (match y with
          | .const (.pointer none) => (match op with
            | .eql => some ([],.f (.v (.bool false)))
            | .neq => some ([],.f (.v (.bool true)))
            | _ => none)
          | _ => none)
        | _ => none)
      | none => none)
    | false => none)
  | none => none
def oG (i : TI) : Bool := i.kd.agg || Nat.beq i.size 1
theorem szOk_of {i : TI} (h : oG i = true) : i.kd.agg = false → i.size = 1 := by
  intro h0
  unfold oG at h
  rw [h0,Bool.false_or] at h
  exact Nat.eq_of_beq_eq_true h
def tP (tab : bR) (env : aI) (H : ah) (t : Nat) (x : Operand) : Option PV :=
  match tab t with
  | none => none
  | some i => match oG i with
    | false => none
    | true => match ev env x with
      | some (.ptr n off) => (match look H n with
        | some (.obj cs) => (match Nat.ble (off + i.size) cs.length with
          | true => some (if i.kd.agg then mkAgg ((cs.drop off).take i.size) else (cs.drop off).headD (.f (.v undef)))
          | false => none)
        | _ => none)
      | some (.f (.ro (.agg cs))) => (match i.kd.agg && Nat.beq cs.length i.size with|true => some (.f (.agg cs))|false => none)
      | some (.f (.ro (.v a))) => (match i.kd.agg with|false => some (.f (.v a))|true => none)
      | some (.f (.ro (.sl a b c))) => (match i.kd.agg with|false => some (.f (.sl a b c))|true => none)
      | some (.f (.ro (.ro y))) => (match i.kd.agg with|false => some (.f (.ro y))|true => none)
      | _ => none
theorem xLoad_ok {tab : bR}{env : aI}{H : ah}{nx : Nat}{K : PV → Nat → ah → Prop}{t : Nat}{x : Operand}{v : PV} (h : tP tab env H t x = some v) (k : K v nx H) : m9 tab env H nx K t x := by
  unfold tP at h
  split at h
  · cases h
  · rename_i i hi
    split at h
    · cases h
    · rename_i hz
      have hz := szOk_of hz
      refine ⟨i,hi,hz, ?_⟩
      split at h
      · rename_i n off he
        split at h
        · rename_i cs hl
          split at h
          · rename_i hb
            cases h
            exact .inl ⟨n,off,cs,he,hl,Nat.le_of_ble_eq_true hb,k⟩
          · cases h
        · cases h
      · rename_i cs he
        split at h
        · rename_i hb
          rw [Bool.and_eq_true] at hb
          cases h
          exact .inr (.inl ⟨.agg cs,he,Nat.eq_of_beq_eq_true hb.2,fun _ => rfl,fun h0 => (by rw [hb.1] at h0; cases h0),k⟩)
        · cases h
      · rename_i a he
        split at h
        · rename_i hb; cases h; exact .inr (.inl ⟨_,he,(hz hb).symm,fun h0 => (by rw [hb] at h0; cases h0),fun _ => rfl,k⟩)
        · cases h
      · rename_i a b d he
        split at h
        · rename_i hb; cases h; exact .inr (.inl ⟨_,he,(hz hb).symm,fun h0 => (by rw [hb] at h0; cases h0),fun _ => rfl,k⟩)
        · cases h
      · rename_i y he
        split at h
        · rename_i hb; cases h; exact .inr (.inl ⟨_,he,(hz hb).symm,fun h0 => (by rw [hb] at h0; cases h0),fun _ => rfl,k⟩)
        · cases h
      · cases h
def kL (tab : bR) (env : aI) (s : Nat) (x : Operand) (q : Nat) : Option PV :=
  match tab s with
  | some i => (match i.kd with
    | .struct fs => (match fs[q]? with
      | some (off,ft) => (match tab ft with
        | some it => (match oG it && !(Nat.beq it.size 0) with
          | true => (match ev env x with
            | some (.ptr n o1) => some (.ptr n (o1 + off))
            | some (.ep n j o1) => some (.ep n j (o1 + off))
            | some (.f (.ro (.agg cs))) => (match Nat.ble (off + it.size) cs.length && (it.kd.agg || !(gr false cs off 1).isAgg) with
              | true => some (.f (.ro (gr it.kd.agg cs off it.size)))
              | false => none)
            | _ => none)
          | false => none)
        | none => none)
      | none => none)
    | _ => none)
  | none => none
theorem xFieldAddr_ok {tab : bR}{env : aI}{H : ah}{nx : Nat}{K : PV → Nat → ah → Prop}{s q : Nat}{x : Operand}{v : PV} (h : kL tab env s x q = some v) (k : K v nx H) : jp tab env H nx K s x q := by
  unfold kL at h
  split at h
  · rename_i i hi
    split at h
    · rename_i fs hfs
      split at h
      · rename_i off ft hf
        split at h
        · rename_i it hit
          split at h
          · rename_i hz
            rw [Bool.and_eq_true] at hz
            have h0 : it.size ≠ 0 := fun e => by rw [e] at hz; simp at hz
            refine ⟨i,fs,off,ft,it,hi,hfs,hf,hit,h0,szOk_of hz.1, ?_⟩
            split at h
            · rename_i n o1 he; cases h; exact .inl ⟨n,o1,he,k⟩
            · rename_i n j o1 he; cases h; exact .inr (.inr ⟨n,j,o1,he,k⟩)
            · rename_i cs he
              split at h
              · rename_i hb
                rw [Bool.and_eq_true] at hb
                cases h
                exact .inr (.inl ⟨cs,he,Nat.le_of_ble_eq_true hb.1,fun ha => (by have := hb.2; rw [ha,Bool.false_or] at this; simpa using this),k⟩)
              · cases h
            · cases h
          · cases h
        · cases h
      · cases h
    · cases h
  · cases h
def qN (tab : bR) (env : aI) (s : Nat) (x : Operand) (q : Nat) : Option PV :=
  match tab s with
  | some i => (match i.kd with
    | .struct fs => (match fs[q]? with
      | some (off,ft) => (match tab ft with
        | some it => (match oG it with
          | true => (match ev env x with
            | some (.agg cs) => (match Nat.ble (off + it.size) cs.length with
              | true => some (if it.kd.agg then mkAgg ((cs.drop off).take it.size) else (cs.drop off).headD (.f (.v undef)))
              | false => none)
            | some (.f (.agg cs)) => (match Nat.ble (off + it.size) cs.length with
              | true => some (.f (gr it.kd.agg cs off it.size))
              | false => none)
            | _ => none)
          | false => none)
        | none => none)
      | none => none)
    | _ => none)
  | none => none
theorem xField_ok {tab : bR}{env : aI}{H : ah}{nx : Nat}{K : PV → Nat → ah → Prop}{s q : Nat}{x : Operand}{v : PV} (h : qN tab env s x q = some v) (k : K v nx H) : lZ tab env H nx K s x q := by
  unfold qN at h
  split at h
  · rename_i i hi
    split at h
    · rename_i fs hfs
      split at h
      · rename_i off ft hf
        split at h
        · rename_i it hit
          split at h
          · rename_i hz
            refine ⟨i,fs,off,ft,it,hi,hfs,hf,hit,szOk_of hz, ?_⟩
            split at h
            · rename_i cs he
              split at h
              · rename_i hb; cases h; exact .inl ⟨cs,he,Nat.le_of_ble_eq_true hb,k⟩
              · cases h
            · rename_i cs he
              split at h
              · rename_i hb; cases h; exact .inr ⟨cs,he,Nat.le_of_ble_eq_true hb,k⟩
              · cases h
            · cases h
          · cases h
        · cases h
      · cases h
    · cases h
  · cases h
def jG (tab : bR) (env : aI) (fs : List (Nat × Nat)) : List (Nat × Operand) → List PV → Option (List PV)
  | [],cs => some cs
  | (q,x) :: r,cs => match fs[q]? with
    | some (off,ft) => (match tab ft with
      | some it => (match ev env x with
        | some pv => (match pv.storable && (Nat.beq pv.cells.length it.size && Nat.ble (off + it.size) cs.length) with
          | true => jG tab env fs r (splice cs off pv.cells)
          | false => none)
        | none => none)
      | none => none)
    | none => none
theorem LeP.refl' : ∀ cs : List PV,LeP cs cs
  | [] => trivial
  | x :: t => ⟨le_refl x,LeP.refl' t⟩
theorem kh {tab : bR}{env : aI}{fs : List (Nat × Nat)}{C : List PV → Prop} : ∀ {ps : List (Nat × Operand)}{cs ds : List PV},jG tab env fs ps cs = some ds → C ds → fl tab env fs C ps cs
  | [],cs,ds,h,k => by cases h; exact ⟨cs,LeP.refl' cs,k⟩
  | (q,x) :: r,cs,ds,h,k => by
    unfold jG at h
    split at h
    · rename_i off ft hf
      split at h
      · rename_i it hit
        split at h
        · rename_i pv he
          split at h
          · rename_i hb
            rw [Bool.and_eq_true,Bool.and_eq_true] at hb
            exact ⟨off,ft,it,pv,hf,hit,he,hb.1,Nat.eq_of_beq_eq_true hb.2.1,Nat.le_of_ble_eq_true hb.2.2,kh h k⟩
          · cases h
        · cases h
      · cases h
    · cases h
def qO (tab : bR) (env : aI) (t : Nat) (parts : List (Nat × Operand)) : Option PV :=
  match tab t with
  | some i => (match i.kd with
    | .struct fs => (match fs.all fun p => (tab p.2).isSome with
      | true => (jG tab env fs parts (i.zero.map fun v => .f (.v v))).map mkAgg
      | false => none)
    | .arr n e => (match tab e with
      | some ie => (jG tab env ((List.range n).map fun k => (k * ie.size,e)) parts (i.zero.map fun v => .f (.v v))).map mkAgg
      | none => none)
    | _ => none)
  | none => none
theorem xBuild_ok {tab : bR}{env : aI}{H : ah}{nx : Nat}{K : PV → Nat → ah → Prop}{t : Nat}{ps : List (Nat × Operand)}{v : PV} (h : qO tab env t ps = some v) (k : K v nx H) : l3 tab env H nx K t ps := by
  unfold qO at h
  split at h
  · rename_i i hi
    split at h
    · rename_i fs hfs
      split at h
      · rename_i ha
        obtain ⟨ds,h1,rfl⟩ := Option.map_eq_some_iff.1 h
        exact .inl ⟨i,fs,hi,hfs,ha,kh h1 k⟩
      · cases h
    · rename_i n e hk
      split at h
      · rename_i ie hie
        obtain ⟨ds,h1,rfl⟩ := Option.map_eq_some_iff.1 h
        exact .inr ⟨i,n,e,ie,hi,hk,hie,kh h1 k⟩
      · cases h
    · cases h
  · cases h
def qr (tab : bR) (env : aI) (H : ah) : Op → Option (List Prop × PV)
  | .move x => (ev env x).map fun v => ([],v)
  | .assign x => (ev env x).map fun v => ([],v)
  | .pick x a b => match ev env x with
    | some (.f (.v (.bool t))) => (match t with|true => (ev env a).map fun v => ([],v)|false => (ev env b).map fun v => ([],v))
    | _ => none
  | .load t x => (tP tab env H t x).map fun v => ([],v)
  | .nilCheck x => match ev env x with
    | some pv => (match ptrB pv with|true => some ([],pv)|false => none)
    | none => none
  | .binOp op t x y _ => uJ tab env op t x y
  | .unOp op _ x => match op with
    | .not => (match ev env x with|some (.f (.v (.bool b))) => some ([],.f (.v (.bool !b)))|_ => none)
    | _ => none
  | .convert s t x => match tab s with
    | some is => (match tab t with
      | some it => (match it.kd with
        | .int k => (match decide (k = .i64) with
          | true => (match is.kd with
            | .int _ => (match ev env x with
              | some (.f (.v (.int _ a))) => some ([bu a],.f (.v (.int .i64 a)))
              | _ => none)
            | _ => none)
          | false => none)
        | _ => none)
      | none => none)
    | none => none
  | .extract x i => match ev env x with
    | some (.tup xs) => (xs[i]?).map fun v => ([],v)
    | _ => none
  | .fieldAddr s x q => (kL tab env s x q).map fun v => ([],v)
  | .field s x q => (qN tab env s x q).map fun v => ([],v)
  | .build t ps => (qO tab env t ps.toList).map fun v => ([],v)
  | _ => none
theorem xPure_ok {P : Program}{tab : bR}{env : aI}{H : ah}{nx : Nat}{K : PV → Nat → ah → Prop}{op : Op}{cs : List Prop}{v : PV} (h : qr tab env H op = some (cs,v)) (hc : AllP cs) (k : K v nx H) : stepOp P tab env nx H K op := by
  unfold qr at h
  split at h
  · obtain ⟨pv,h1,h2⟩ := Option.map_eq_some_iff.1 h; cases h2; exact ⟨_,h1,k⟩
  · obtain ⟨pv,h1,h2⟩ := Option.map_eq_some_iff.1 h; cases h2; exact ⟨_,h1,k⟩
  · split at h
    · rename_i t he
      split at h
      · obtain ⟨pv,h1,h2⟩ := Option.map_eq_some_iff.1 h; cases h2; exact ⟨true,he,fun _ => ⟨_,h1,k⟩,fun e => (by cases e)⟩
      · obtain ⟨pv,h1,h2⟩ := Option.map_eq_some_iff.1 h; cases h2; exact ⟨false,he,fun e => (by cases e),fun _ => ⟨_,h1,k⟩⟩
    · cases h
  · obtain ⟨pv,h1,h2⟩ := Option.map_eq_some_iff.1 h; cases h2; exact xLoad_ok h1 k
  · split at h
    · rename_i pv he
      split at h
      · rename_i hp; cases h
        refine ⟨_,he, ?_,k⟩
        cases v with
        | f z => cases z <;> first|exact trivial|(simp [ptrB] at hp)
        | ptr n o => exact trivial
        | ep n i o => exact trivial
        | _ => simp [ptrB] at hp
      · cases h
    · cases h
  · rename_i op t x y u
    unfold uJ at h
    split at h
    · rename_i a he
      split at h
      · rename_i b he2
        obtain ⟨p,h1,h2⟩ := Option.map_eq_some_iff.1 h
        obtain ⟨p1,p2⟩ := p
        cases h2
        exact .inl ⟨a,b,he,he2,yp h1 hc k⟩
      · cases h
    · rename_i pv hne he
      split at h
      · rename_i hp
        split at h
        · rename_i i hi
          split at h
          · rename_i e hk
            split at h
            · split at h
              · cases h; exact s_ptrnil hi hk he (ptrB_guess hp) k
              · cases h; exact s_ptrnot hi hk he (ptrB_guess hp) k
              · cases h
            · cases h
          · cases h
        · cases h
      · cases h
    · cases h
  · split at h
    · split at h
      · rename_i b he; cases h; exact ⟨_,he,k⟩
      · cases h
    · cases h
  · split at h
    · rename_i is his
      split at h
      · rename_i it hit
        split at h
        · rename_i k0 hk
          split at h
          · rename_i hd
            have hd := of_decide_eq_true hd
            subst hd
            split at h
            · rename_i k2 hk2
              split at h
              · rename_i k3 a he
                cases h
                exact .inl ⟨is,it,his,hit,.inl ⟨.i64,k3,a,hk,he,⟨k2,hk2⟩,by rw [wrap_i64 hc.1]; exact k⟩⟩
              · cases h
            · cases h
          · cases h
        · cases h
      · cases h
    · cases h
  · split at h
    · rename_i xs he
      obtain ⟨pv,h1,h2⟩ := Option.map_eq_some_iff.1 h; cases h2; exact ⟨xs,_,he,h1,k⟩
    · cases h
  · obtain ⟨pv,h1,h2⟩ := Option.map_eq_some_iff.1 h; cases h2; exact xFieldAddr_ok h1 k
  · obtain ⟨pv,h1,h2⟩ := Option.map_eq_some_iff.1 h; cases h2; exact xField_ok h1 k
  · obtain ⟨pv,h1,h2⟩ := Option.map_eq_some_iff.1 h; cases h2; exact xBuild_ok h1 k
  · cases h
def tO (tab : bR) (env : aI) (nx : Nat) (H : ah) : Op → Option (PV × Nat × ah)
  | .alloc e => (tab e).map fun i => (.ptr nx 0,nx + 1,(nx,.obj (i.zero.map fun v => .f (.v v))) :: H)
  | .box _ x => match ev env x with
    | some pv => (match pv.storable with|true => some (.ptr nx 0,nx + 1,(nx,.obj pv.cells) :: H)|false => none)
    | none => none
  | .store t x y => match tab t with
    | some i => (match ev env y with
      | some pv => (match pv.storable && Nat.beq pv.cells.length i.size with
        | true => (match ev env x with
          | some (.ptr n off) => (match look H n with
            | some (.obj cs) => (match Nat.ble (off + i.size) cs.length with
              | true => some (.f (.v undef),nx,hput H n (.obj (splice cs off pv.cells)))
              | false => none)
            | _ => none)
          | _ => none)
        | false => none)
      | none => none)
    | none => none
  | _ => none
theorem xMem_ok {P : Program}{tab : bR}{env : aI}{H H' : ah}{nx nx' : Nat}{K : PV → Nat → ah → Prop}{op : Op}{v : PV} (h : tO tab env nx H op = some (v,nx',H')) (k : K v nx' H') : stepOp P tab env nx H K op := by
  unfold tO at h
  split at h
  · obtain ⟨i,h1,h2⟩ := Option.map_eq_some_iff.1 h; cases h2; exact ⟨i,h1,k⟩
  · split at h
    · rename_i pv he
      split at h
      · rename_i hs; cases h; exact ⟨pv,he,hs,k⟩
      · cases h
    · cases h
  · split at h
    · rename_i i hi
      split at h
      · rename_i pv he
        split at h
        · rename_i hb
          rw [Bool.and_eq_true] at hb
          split at h
          · rename_i n off hx
            split at h
            · rename_i cs hl
              split at h
              · rename_i hle; cases h
                exact ⟨i,pv,hi,he,hb.1,Nat.eq_of_beq_eq_true hb.2,.inl ⟨n,off,cs,hx,hl,Nat.le_of_ble_eq_true hle,k⟩⟩
              · cases h
            · cases h
          · cases h
        · cases h
      · cases h
    · cases h
  · cases h
def xOp (m : Bool) (tab : bR) (env : aI) (nx : Nat) (H : ah) (op : Op) : Option (List Prop × PV × Nat × ah) :=
  match qr tab env H op with
  | some (cs,v) => some (cs,v,nx,H)
  | none => match m with
    | true => (tO tab env nx H op).map fun r => ([],r)
    | false => none
theorem Ak {P : Program}{m : Bool}{tab : bR}{env : aI}{H H' : ah}{nx nx' : Nat}{K : PV → Nat → ah → Prop}{op : Op}{cs : List Prop}{v : PV} (h : xOp m tab env nx H op = some (cs,v,nx',H')) (hc : AllP cs) (k : K v nx' H') : stepOp P tab env nx H K op := by
  unfold xOp at h
  split at h
  · rename_i cs0 v0 h0; cases h; exact xPure_ok h0 hc k
  · split at h
    · obtain ⟨⟨v1,n1,H1⟩,h1,h2⟩ := Option.map_eq_some_iff.1 h; cases h2; exact xMem_ok h1 k
    · cases h
theorem xOp_pure {tab : bR}{env : aI}{H H' : ah}{nx nx' : Nat}{op : Op}{cs : List Prop}{v : PV} (h : xOp false tab env nx H op = some (cs,v,nx',H')) : nx' = nx ∧ H' = H := by
  unfold xOp at h
  split at h
  · cases h; exact ⟨rfl,rfl⟩
  · cases h
def oa (ops : Array Oper) (env : aI) (g : Option (Nat × Bool)) : Option Bool :=
  match g with
  | none => some true
  | some (j,want) => match (ops[j]?).bind (·.dst) with
    | some d => (match look env d with
      | some (.f (.v v)) => (match vb v with|some b => some (b == want)|none => some false)
      | _ => none)
    | none => none
def kK (m : Bool) (tab : bR) (nt : Nat) (ops : Array Oper) (o : Oper) (env : aI) (nx : Nat) (H : ah) : Option (List Prop × aI × Nat × ah) :=
  match dstOk nt o.dst with
  | false => none
  | true => match oa ops env o.guard with
    | some true => (match xOp m tab env nx H o.op with
      | some (cs,v,nx',H') => some (cs,putE o.dst v env,nx',H')
      | none => none)
    | some false => some ([],fQ o.dst env,nx,H)
    | none => none
section
variable {P : Program}{tab : bR}{c : Ctx}{ops : Array Oper}{nt : Nat}{Q : cH}
theorem wb (ht : TabOk P tab) (hnt : c.nt = nt) {m : Bool}{o : Oper}{rest : List Oper}{env env' : aI}{nx nx' : Nat}{H H' : ah}{cs : List Prop} (h : kK m tab nt ops o env nx H = some (cs,env',nx',H')) (hc : AllP cs) (k : R P c ops rest env' nx' H' Q) :
    R P c ops (o :: rest) env nx H Q := by
  obtain ⟨dst,op,ty,p,a,g⟩ := o
  unfold kK at h
  split at h
  · cases h
  · rename_i hd
    have run : ∀ {cs v nx1 H1},xOp m tab env nx H op = some (cs,v,nx1,H1) → AllP cs → R P c ops rest (putE dst v env) nx1 H1 Q → R P c ops (⟨dst,op,ty,p,a,none⟩ :: rest) env nx H Q :=
      fun h0 h1 h2 => oM ht hnt hd (Ak h0 h1 h2)
    split at h
    · rename_i hg
      split at h
      · rename_i cs0 v0 n0 H0 h0
        cases h
        cases g with
        | none => exact run h0 hc k
        | some g =>
          obtain ⟨j,want⟩ := g
          simp only [oa] at hg
          split at hg
          · rename_i d hj
            split at hg
            · rename_i v hl
              split at hg
              · rename_i b hb
                simp only [Option.some.injEq,beq_iff_eq] at hg
                exact oN ht hnt hj hl hd (fun _ => run h0 hc k) (fun e => absurd (by rw [hb,hg]) e)
              · cases hg
            · cases hg
          · cases hg
      · cases h
    · rename_i hg
      cases h
      cases g with
      | none => cases hg
      | some g =>
        obtain ⟨j,want⟩ := g
        simp only [oa] at hg
        split at hg
        · rename_i d hj
          split at hg
          · rename_i v hl
            split at hg
            · rename_i b hb
              simp only [Option.some.injEq,beq_eq_false_iff_ne] at hg
              exact oN ht hnt hj hl hd (fun e => by rw [hb] at e; exact absurd (Option.some.inj e) hg) (fun _ => k)
            · rename_i hb
              exact oN ht hnt hj hl hd (fun e => by rw [hb] at e; cases e) (fun _ => k)
          · cases hg
        · cases hg
    · cases h
end
def nM (P : Program) (tab : bR) (env : aI) (H : ah) (v : PV) : Op → Option (List Prop)
  | .call { callee := .value f,args,argTypes := _ } => (match ev env f with
    | some (.clo (.func g) []) => (match evs env args.toList with
      | some ps => (match ps.all isF && has (fun _ => false) v with
        | true => some [T P g ps 0 [] (Ret v 0 [])]
        | false => none)
      | none => none)
    | _ => none)
  | .call { callee := .builtin b,args,argTypes } => (match b,args.toList,argTypes.toList with
    | .len,[x],[t] => (match tab t with
      | some i => (match i.kd with
        | .slice _ => (match v with
          | .f (.v (.int .i64 m)) => (match ev env x with
            | some (.f (.sl _ _ l)) => some [((l.length : Nat) : Int) = m]
            | some (.ref n lo hi) => (match look H n with
              | some (.buf _ _ l) => some [(((view lo hi l).length : Nat) : Int) = m]
              | _ => none)
            | _ => none)
          | _ => none)
        | _ => none)
      | none => none)
    | _,_,_ => none)
  | .binOp op _ x y _ => (match ev env x with
    | some (.f (.v (.int k a))) => (match ev env y with
      | some (.f (.v (.int k' b))) => (match decide (k = k') with
        | true => (match v with
          | .f (.v (.bool r)) => (match op with
            | .eql => some [decide (a = b) = r]
            | .neq => some [(!decide (a = b)) = r]
            | _ => none)
          | _ => none)
        | false => none)
      | _ => none)
    | _ => none)
  | _ => none
theorem pn {P : Program}{tab : bR}{env : aI}{nx : Nat}{H : ah}{K : PV → Nat → ah → Prop}{v : PV}{op : Op}{cs : List Prop} (h : nM P tab env H v op = some cs) (hc : AllP cs) (k : K v nx H) : stepOp P tab env nx H K op := by
  unfold nM at h
  split at h
  · split at h
    · rename_i g he
      split at h
      · rename_i ps hps
        split at h
        · rename_i hb
          rw [Bool.and_eq_true] at hb
          cases h
          exact aO he hps hb.1 hc.1 hb.2 k
        · cases h
      · cases h
    · cases h
  · rename_i b args argTypes
    split at h
    · rename_i x t ha htt
      split at h
      · rename_i i hi
        split at h
        · rename_i e hk
          split at h
          · rename_i m
            split at h
            · rename_i sz cl l he
              cases h
              show stepOp P tab env nx H K (.call { callee := .builtin .len,args := args,argTypes := argTypes })
              rw [show args = #[x] from toArr ha,show argTypes = #[t] from toArr htt]
              exact ⟨i,hi,.inl ⟨e,sz,l,hk,.inl ⟨cl,he⟩,by rw [hc.1]; exact k⟩⟩
            · rename_i n lo hi he
              split at h
              · rename_i wr sz l hl
                cases h
                rw [show args = #[x] from toArr ha,show argTypes = #[t] from toArr htt]
                exact ⟨i,‹_›,.inl ⟨e,sz,view lo hi l,hk,.inr (.inr ⟨n,lo,hi,wr,l,he,hl,rfl⟩),by rw [hc.1]; exact k⟩⟩
              · cases h
            · cases h
          · cases h
        · cases h
      · cases h
    · cases h
  · rename_i op t x y u
    split at h
    · rename_i k1 a he
      split at h
      · rename_i k2 b he2
        split at h
        · rename_i hk
          have hk := of_decide_eq_true hk
          split at h
          · rename_i r
            split at h
            · cases h; exact .inl ⟨_,_,he,he2,⟨hk,by rw [hc.1]; exact k⟩⟩
            · cases h; exact .inl ⟨_,_,he,he2,⟨hk,by rw [hc.1]; exact k⟩⟩
            · cases h
          · cases h
        · cases h
      · cases h
    · cases h
  · cases h
def lJ (P : Program) (tab : bR) (nt : Nat) (ops : Array Oper) (v : PV) (o : Oper) (env : aI) (H : ah) : Option (List Prop × aI) :=
  match dstOk nt o.dst with
  | false => none
  | true => match oa ops env o.guard with
    | some true => (match nM P tab env H v o.op with
      | some cs => some (cs,putE o.dst v env)
      | none => none)
    | _ => none
theorem ze {P : Program}{tab : bR}{c : Ctx}{ops : Array Oper}{nt : Nat}{Q : cH} (ht : TabOk P tab) (hnt : c.nt = nt) {dst : Option Nat}{op : Op}{ty : Nat}{p : String}{a : Array Edge}{g : Option (Nat × Bool)}{rest : List Oper}{env : aI}{nx : Nat}{H : ah} (hd : dstOk nt dst = true) (hg : oa ops env g = some true)
    (k : R P c ops (⟨dst,op,ty,p,a,none⟩ :: rest) env nx H Q) : R P c ops (⟨dst,op,ty,p,a,g⟩ :: rest) env nx H Q := by
  cases g with
  | none => exact k
  | some g =>
    obtain ⟨j,want⟩ := g
    simp only [oa] at hg
    split at hg
    · rename_i d hj
      split at hg
      · rename_i v hl
        split at hg
        · rename_i b hb
          simp only [Option.some.injEq,beq_iff_eq] at hg
          exact oN ht hnt hj hl hd (fun _ => k) (fun e => absurd (by rw [hb,hg]) e)
        · cases hg
      · cases hg
    · cases hg
theorem xStepC_ok {P : Program}{tab : bR}{c : Ctx}{ops : Array Oper}{nt : Nat}{Q : cH} (ht : TabOk P tab) (hnt : c.nt = nt) {v : PV}{o : Oper}{rest : List Oper}{env env' : aI}{nx : Nat}{H : ah}{cs : List Prop} (h : lJ P tab nt ops v o env H = some (cs,env')) (hc : AllP cs) (k : R P c ops rest env' nx H Q) :
    R P c ops (o :: rest) env nx H Q := by
  obtain ⟨dst,op,ty,p,a,g⟩ := o
  unfold lJ at h
  split at h
  · cases h
  · rename_i hd
    split at h
    · rename_i hg
      split at h
      · rename_i cs0 h0
        cases h
        exact ze ht hnt hd hg (oM ht hnt hd (pn h0 hc k))
      · cases h
    · cases h
theorem sv {P : Program}{tab : bR}{nt : Nat}{ops : Array Oper}{v : PV}{o : Oper}{env env' : aI}{H : ah}{cs : List Prop} (h : lJ P tab nt ops v o env H = some (cs,env')) {k : Nat} (hk : o.dst ≠ some k) : look env' k = look env k := by
  unfold lJ at h
  split at h
  · cases h
  · split at h
    · split at h
      · cases h; rw [look_putE,if_neg hk]
      · cases h
    · cases h
def dsts (l : List Oper) : List Nat := l.filterMap (·.dst)
def dropEs : aI → List Nat → aI
  | e,[] => e
  | e,n :: t => dropEs (drop e n) t
def qt (want : Bool) (d : Nat) (po : Oper) (b : Bool) (e1 e2 : aI) : Option (Nat × PV) :=
  match po.dst with
  | none => none
  | some pd => match po.guard with
    | some _ => none
    | none => match po.op with
      | .pick (.tmp d') x y => (match Nat.beq d' d with
        | false => none
        | true => (match want with
          | true => (match y with
            | .const (.bool false) => (match ev e1 x with
              | some (.f (.v (.bool u))) => some (pd,.f (.v (.bool (b && u))))
              | _ => none)
            | _ => none)
          | false => (match x with
            | .const (.bool true) => (match ev e1 y with
              | some (.f (.v (.bool u))) => some (pd,.f (.v (.bool (b || u))))
              | _ => none)
            | _ => none)))
      | _ => none
def oV (p : Prop) : List Prop → List Prop
  | [] => []
  | c :: cs => [p → AllP (c :: cs)]
theorem oU {p : Prop}{cs : List Prop} (h : AllP (oV p cs)) (hp : p) : AllP cs := by
  cases cs with
  | nil => trivial
  | cons c cs => exact h.1 hp
def dV (P : Program) (m : Bool) (tab : bR) (nt : Nat) (ops : Array Oper) : Nat → List XA → List Oper → aI → Nat → ah → Option (List Prop × aI × Nat × ah)
  | 0,_,_,_,_,_ => none
  | f + 1,[],l,env,nx,H => match l with|[] => some ([],env,nx,H)|_ => none
  | f + 1,.o 0 :: us,l,env,nx,H => dV P m tab nt ops f us l env nx H
  | f + 1,.o (n + 1) :: us,l,env,nx,H => match l with
    | [] => none
    | o :: l => match kK m tab nt ops o env nx H with
      | some (cs,env',nx',H') => (match dV P m tab nt ops f (.o n :: us) l env' nx' H' with
        | some (cs2,r) => some (cs ++ cs2,r)
        | none => none)
      | none => none
  | f + 1,.c v :: us,l,env,nx,H => match l with
    | [] => none
    | o :: l => match lJ P tab nt ops v o env H with
      | some (cs,env') => (match dV P m tab nt ops f us l env' nx H with
        | some (cs2,r) => some (cs ++ cs2,r)
        | none => none)
      | none => none
  | f + 1,.b n bs :: us,l,env,nx,H => match l with
    | [] => none
    | o :: l' => match o.guard with
      | none => none
      | some (j,want) => match (ops[j]?).bind (·.dst) with
        | none => none
        | some d => match look env d with
          | some (.f (.v (.bool b))) => (match dV P false tab nt ops f bs ((o :: l').take n) ((d,.f (.v (.bool want))) :: env) nx H with
            | some (cs1,e1,_,_) => (match dV P false tab nt ops f [.o n] ((o :: l').take n) ((d,.f (.v (.bool !want))) :: env) nx H with
              | some (cs2,e2,_,_) => (match (o :: l').drop n with
                | po :: l2 => (match dstOk nt po.dst with
                  | false => none
                  | true => (match qt want d po b e1 e2 with
                    | some (pd,pv) => (match decide (d ∈ dsts ((o :: l').take n)) || decide (pd ∈ dsts ((o :: l').take n)) with
                      | true => none
                      | false => (match dV P m tab nt ops f us l2 ((pd,pv) :: dropEs env (dsts ((o :: l').take n))) nx H with
                        | some (cs3,r) => some (oV (b = want) cs1 ++ (oV (b = !want) cs2 ++ cs3),r)
                        | none => none))
                    | none => none))
                | [] => none)
              | none => none)
            | none => none)
          | _ => none
theorem mV {ds : List Nat} : ∀ {e : aI}{k : Nat},look (dropEs e ds) k = if k ∈ ds then none else look e k := by
  induction ds with
  | nil => intro e k; simp [dropEs]
  | cons n t ih =>
    intro e k
    rw [dropEs,ih]
    by_cases h : k = n
    · subst h; simp [eR]
    · rw [d9 _ (fun e => h e.symm)]; simp [h]
theorem sV (a b : List Oper) : dsts (a ++ b) = dsts a ++ dsts b := by unfold dsts; rw [List.filterMap_append]
theorem fD {o : Oper}{l : List Oper}{d : Nat} (h : o.dst = some d) : dsts (o :: l) = d :: dsts l := by unfold dsts; rw [List.filterMap_cons,h]
theorem tM {m : Bool}{tab : bR}{nt : Nat}{ops : Array Oper}{o : Oper}{env env' : aI}{nx nx' : Nat}{H H' : ah}{cs : List Prop} (h : kK m tab nt ops o env nx H = some (cs,env',nx',H')) {k : Nat} (hk : o.dst ≠ some k) : look env' k = look env k := by
  unfold kK at h
  split at h
  · cases h
  · split at h
    · split at h
      · cases h; rw [look_putE,if_neg hk]
      · cases h
    · cases h; rw [look_dropE,if_neg hk]
    · cases h
theorem tL {tab : bR}{nt : Nat}{ops : Array Oper}{o : Oper}{env env' : aI}{nx nx' : Nat}{H H' : ah}{cs : List Prop} (h : kK false tab nt ops o env nx H = some (cs,env',nx',H')) : nx' = nx ∧ H' = H := by
  unfold kK at h
  split at h
  · cases h
  · split at h
    · split at h
      · rename_i h0; cases h; exact xOp_pure h0
      · cases h
    · cases h; exact ⟨rfl,rfl⟩
    · cases h
theorem tQ {P : Program}{m : Bool}{tab : bR}{nt : Nat}{ops : Array Oper}{f n : Nat}{bs us : List XA}{l : List Oper}{env env' : aI}{nx nx' : Nat}{H H' : ah}{cs : List Prop} (h : dV P m tab nt ops (f + 1) (.b n bs :: us) l env nx H = some (cs,env',nx',H')) :
    ∃ d b want cs1 e1 n1 H1 cs2 e2 n2 H2 po l2 pd pv cs3,look env d = some (.f (.v (.bool b))) ∧ dV P false tab nt ops f bs (l.take n) ((d,.f (.v (.bool want))) :: env) nx H = some (cs1,e1,n1,H1) ∧
      dV P false tab nt ops f [.o n] (l.take n) ((d,.f (.v (.bool !want))) :: env) nx H = some (cs2,e2,n2,H2) ∧ l.drop n = po :: l2 ∧ dstOk nt po.dst = true ∧ qt want d po b e1 e2 = some (pd,pv) ∧
      d ∉ dsts (l.take n) ∧ pd ∉ dsts (l.take n) ∧ dV P m tab nt ops f us l2 ((pd,pv) :: dropEs env (dsts (l.take n))) nx H = some (cs3,env',nx',H') ∧ cs = oV (b = want) cs1 ++ (oV (b = !want) cs2 ++ cs3) := by
  unfold dV at h
  split at h
  · cases h
  · rename_i o l'
    split at h
    · cases h
    · rename_i j want hg
      split at h
      · cases h
      · rename_i d hd
        split at h
        · rename_i b hl
          split at h
          · rename_i cs1 e1 n1 H1 r1
            split at h
            · rename_i cs2 e2 n2 H2 r2
              split at h
              · rename_i po l2 hdr
                split at h
                · cases h
                · rename_i hok
                  split at h
                  · rename_i pd pv hp
                    split at h
                    · cases h
                    · rename_i hnd
                      rw [Bool.or_eq_false_iff] at hnd
                      split at h
                      · rename_i cs3 r hr
                        cases h
                        exact ⟨d,b,want,cs1,e1,n1,H1,cs2,e2,n2,H2,po,l2,pd,pv,cs3,hl,r1,r2,hdr,hok,hp,of_decide_eq_false hnd.1,of_decide_eq_false hnd.2,hr,rfl⟩
                      · cases h
                  · cases h
              · cases h
            · cases h
          · cases h
        · cases h
theorem xGo_pure {P : Program}{tab : bR}{nt : Nat}{ops : Array Oper} : ∀ {f : Nat}{us : List XA}{l : List Oper}{env env' : aI}{nx nx' : Nat}{H H' : ah}{cs : List Prop},dV P false tab nt ops f us l env nx H = some (cs,env',nx',H') → nx' = nx ∧ H' = H
  | 0,_,_,_,_,_,_,_,_,_,h => by simp [dV] at h
  | f + 1,[],l,_,_,_,_,_,_,_,h => by
    unfold dV at h
    split at h
    · cases h; exact ⟨rfl,rfl⟩
    · cases h
  | f + 1,.o 0 :: us,l,_,_,_,_,_,_,_,h => by unfold dV at h; exact xGo_pure h
  | f + 1,.o (n + 1) :: us,l,env,_,nx,_,H,_,_,h => by
    unfold dV at h
    split at h
    · cases h
    · split at h
      · rename_i cs0 e0 n0 H0 h0
        split at h
        · rename_i cs2 r h2
          cases h
          obtain ⟨a1,a2⟩ := tL h0
          obtain ⟨b1,b2⟩ := xGo_pure h2
          exact ⟨b1.trans a1,b2.trans a2⟩
        · cases h
      · cases h
  | f + 1,.c v :: us,l,env,_,nx,_,H,_,_,h => by
    unfold dV at h
    split at h
    · cases h
    · split at h
      · rename_i cs0 e0 h0
        split at h
        · rename_i cs2 r h2; cases h; exact xGo_pure h2
        · cases h
      · cases h
  | f + 1,.b n bs :: us,l,_,_,_,_,_,_,_,h => by
    obtain ⟨d,b,want,cs1,e1,n1,H1,cs2,e2,n2,H2,po,l2,pd,pv,cs3,_,_,_,_,_,_,_,_,hr,_⟩ := tQ h
    exact xGo_pure hr
theorem fM {P : Program}{m : Bool}{tab : bR}{nt : Nat}{ops : Array Oper} : ∀ {f : Nat}{us : List XA}{l : List Oper}{env env' : aI}{nx nx' : Nat}{H H' : ah}{cs : List Prop},dV P m tab nt ops f us l env nx H = some (cs,env',nx',H') → ∀ k,k ∉ dsts l → look env' k = look env k
  | 0,_,_,_,_,_,_,_,_,_,h,_,_ => by simp [dV] at h
  | f + 1,[],l,_,_,_,_,_,_,_,h,k,hk => by
    unfold dV at h
    split at h
    · cases h; rfl
    · cases h
  | f + 1,.o 0 :: us,l,_,_,_,_,_,_,_,h,k,hk => by unfold dV at h; exact fM h k hk
  | f + 1,.o (n + 1) :: us,l,env,_,nx,_,H,_,_,h,k,hk => by
    unfold dV at h
    split at h
    · cases h
    · rename_i o l
      split at h
      · rename_i cs0 e0 n0 H0 h0
        split at h
        · rename_i cs2 r h2
          cases h
          have hne : o.dst ≠ some k := fun e => hk (by rw [fD e]; exact List.mem_cons_self)
          have hk2 : k ∉ dsts l := fun hm => hk (by
            cases e : o.dst with
            | none => unfold dsts; rw [List.filterMap_cons,e]; exact hm
            | some q => rw [fD e]; exact List.mem_cons_of_mem _ hm)
          rw [fM h2 k hk2,tM h0 hne]
        · cases h
      · cases h
  | f + 1,.c v :: us,l,env,_,nx,_,H,_,_,h,k,hk => by
    unfold dV at h
    split at h
    · cases h
    · rename_i o l
      split at h
      · rename_i cs0 e0 h0
        split at h
        · rename_i cs2 r h2
          cases h
          have hne : o.dst ≠ some k := fun e => hk (by rw [fD e]; exact List.mem_cons_self)
          have hk2 : k ∉ dsts l := fun hm => hk (by
            cases e : o.dst with
            | none => unfold dsts; rw [List.filterMap_cons,e]; exact hm
            | some q => rw [fD e]; exact List.mem_cons_of_mem _ hm)
          rw [fM h2 k hk2,sv h0 hne]
        · cases h
      · cases h
  | f + 1,.b n bs :: us,l,env,_,_,_,_,_,_,h,k,hk => by
    obtain ⟨d,b,want,cs1,e1,n1,H1,cs2,e2,n2,H2,po,l2,pd,pv,cs3,_,_,_,hdr,_,hp,_,_,hr,_⟩ := tQ h
    have hl : l = l.take n ++ (po :: l2) := by rw [← hdr,List.take_append_drop]
    rw [hl,sV] at hk
    have hk1 : k ∉ dsts (l.take n) := fun hm => hk (List.mem_append_left _ hm)
    have hpo : po.dst = some pd := by
      unfold qt at hp
      split at hp
      · cases hp
      · rename_i q hq
        split at hp
        · cases hp
        · split at hp
          · split at hp
            · cases hp
            · split at hp
              · split at hp
                · split at hp
                  · cases hp; exact hq
                  · cases hp
                · cases hp
              · split at hp
                · split at hp
                  · cases hp; exact hq
                  · cases hp
                · cases hp
          · cases hp
    rw [fD hpo] at hk
    have hk2 : k ≠ pd := fun e => hk (by rw [e]; exact List.mem_append_right _ List.mem_cons_self)
    have hk3 : k ∉ dsts l2 := fun hm => hk (List.mem_append_right _ (List.mem_cons_of_mem _ hm))
    rw [fM hr k hk3,bv _ _ (fun e => hk2 e.symm),mV,if_neg hk1]
section
variable {P : Program}{tab : bR}{c : Ctx}{ops : Array Oper}{nt : Nat}
theorem qz {Q : cH}{l : List Oper}{E env : aI}{nx : Nat}{H : ah} (he : ∀ k p,look E k = some p → look env k = some p) (h : R P c ops l E nx H Q) : R P c ops l env nx H Q :=
  fun φ tmps w hs => h φ tmps w { hs with env := fun k p hk => hs.env k p (he k p hk) }
theorem xGo_ok (ht : TabOk P tab) (hnt : c.nt = nt) : ∀ {f : Nat}{m : Bool}{us : List XA}{l : List Oper}{env env' : aI}{nx nx' : Nat}{H H' : ah}{cs : List Prop}{Q : cH},
    dV P m tab nt ops f us l env nx H = some (cs,env',nx',H') → AllP cs → R P c ops [] env' nx' H' Q → R P c ops l env nx H Q
  | 0,_,_,_,_,_,_,_,_,_,_,_,h,_,_ => by simp [dV] at h
  | f + 1,_,[],l,_,_,_,_,_,_,_,_,h,hc,k => by
    unfold dV at h
    split at h
    · cases h; exact k
    · cases h
  | f + 1,_,.o 0 :: us,l,_,_,_,_,_,_,_,_,h,hc,k => by unfold dV at h; exact xGo_ok ht hnt h hc k
  | f + 1,_,.o (n + 1) :: us,l,env,_,nx,_,H,_,_,_,h,hc,k => by
    unfold dV at h
    split at h
    · cases h
    · split at h
      · rename_i cs0 e0 n0 H0 h0
        split at h
        · rename_i cs2 r h2
          cases h
          exact wb ht hnt h0 hc.left (xGo_ok ht hnt h2 hc.right k)
        · cases h
      · cases h
  | f + 1,_,.c v :: us,l,env,_,nx,_,H,_,_,_,h,hc,k => by
    unfold dV at h
    split at h
    · cases h
    · split at h
      · rename_i cs0 e0 h0
        split at h
        · rename_i cs2 r h2; cases h; exact xStepC_ok ht hnt h0 hc.left (xGo_ok ht hnt h2 hc.right k)
        · cases h
      · cases h
  | f + 1,m,.b n bs :: us,l,env,env',nx,nx',H,H',cs,Q,h,hc,k => by
    obtain ⟨d,b,want,cs1,e1,n1,H1,cs2,e2,n2,H2,po,l2,pd,pv,cs3,hl,r1,r2,hdr,hok,hp,hd,hpd,hr,rfl⟩ := tQ h
    have q1 := oU hc.left
    have q2 := oU hc.right.left
    have hc3 := hc.right.right
    have hrest : R P c ops l2 ((pd,pv) :: dropEs env (dsts (l.take n))) nx H Q := xGo_ok ht hnt hr hc3 k
    have way : ∀ {w : Bool} {cse e nn HH} {bs'},b = w → dV P false tab nt ops f bs' (l.take n) ((d,.f (.v (.bool w))) :: env) nx H = some (cse,e,nn,HH) → AllP cse →
        (R P c ops (po :: l2) e nx H Q) → R P c ops l env nx H Q := by
      intro w cse e nn HH bs' hb hx hce hk
      obtain ⟨z1,z2⟩ := xGo_pure hx
      subst z1; subst z2
      refine uG n (mid := fun e' n' H'' => e' = e ∧ n' = nn ∧ H'' = HH) ?_ ?_
      · refine qz (E := (d,.f (.v (.bool w))) :: env) (fun k p hk => ?_) (xGo_ok ht hnt hx hce (bC ⟨rfl,rfl,rfl⟩))
        by_cases hkd : d = k
        · subst hkd; rw [bQ] at hk; rw [hl,hb]; exact hk
        · rw [bv _ _ hkd] at hk; exact hk
      · rintro e' n' H'' ⟨rfl,rfl,rfl⟩
        rw [hdr]; exact hk
    have same : ∀ {w : Bool} {cse e nn HH} {bs'},dV P false tab nt ops f bs' (l.take n) ((d,.f (.v (.bool w))) :: env) nx H = some (cse,e,nn,HH) → b = w → look e d = some (.f (.v (.bool w))) ∧
        ∀ k p,look (dropEs env (dsts (l.take n))) k = some p → look e k = some p := by
      intro w cse e nn HH bs' hx hb
      refine ⟨by rw [fM hx d hd,bQ],fun k p hk => ?_⟩
      rw [mV] at hk
      split at hk
      · cases hk
      · rename_i hkn
        rw [fM hx k hkn]
        by_cases hkd : d = k
        · subst hkd; rw [bQ]; rw [hl,hb] at hk; exact hk
        · rw [bv _ _ hkd]; exact hk
    have fin : ∀ {e : aI}{v : PV},v = pv → (∀ k p,look (dropEs env (dsts (l.take n))) k = some p → look e k = some p) → R P c ops l2 ((pd,v) :: e) nx H Q := by
      intro e v hv he
      subst hv
      refine qz (E := (pd,v) :: dropEs env (dsts (l.take n))) (fun k p hk => ?_) hrest
      by_cases hkd : pd = k
      · subst hkd; rw [bQ] at hk ⊢; exact hk
      · rw [bv _ _ hkd] at hk ⊢; exact he k p hk
    obtain ⟨pdst,pop,pty,ppos,pa,pg⟩ := po
    unfold qt at hp
    split at hp
    · cases hp
    · rename_i q hq
      simp only at hq hok
      subst hq
      split at hp
      · cases hp
      · rename_i hg
        simp only at hg
        subst hg
        split at hp
        · rename_i d' x y hop
          simp only at hop
          subst hop
          split at hp
          · cases hp
          · rename_i hdd
            have hdd := Nat.eq_of_beq_eq_true hdd
            subst hdd
            have pick : ∀ {e : aI}{t : Bool}{v : PV},look e d' = some (.f (.v (.bool t))) → ev e (if t then x else y) = some v → R P c ops l2 ((q,v) :: e) nx H Q → R P c ops (⟨some q,.pick (.tmp d') x y,pty,ppos,pa,none⟩ :: l2) e nx H Q := by
              intro e t v h1 h2 h3
              refine oM ht hnt hok ⟨t,h1,fun e1 => ?_,fun e1 => ?_⟩
              · subst e1; exact ⟨v,h2,h3⟩
              · subst e1; exact ⟨v,h2,h3⟩
            split at hp
            · split at hp
              · split at hp
                · rename_i u hu
                  cases hp
                  cases b with
                  | true =>
                    obtain ⟨s1,s2⟩ := same r1 rfl
                    exact way rfl r1 (q1 rfl) (pick s1 hu (fin rfl s2))
                  | false =>
                    obtain ⟨s1,s2⟩ := same r2 rfl
                    exact way rfl r2 (q2 rfl) (pick (v := .f (.v (.bool false))) s1 rfl (fin rfl s2))
                · cases hp
              · cases hp
            · split at hp
              · split at hp
                · rename_i u hu
                  cases hp
                  cases b with
                  | false =>
                    obtain ⟨s1,s2⟩ := same r1 rfl
                    exact way rfl r1 (q1 rfl) (pick s1 hu (fin rfl s2))
                  | true =>
                    obtain ⟨s1,s2⟩ := same r2 rfl
                    exact way rfl r2 (q2 rfl) (pick (v := .f (.v (.bool true))) s1 rfl (fin rfl s2))
                · cases hp
              · cases hp
        · cases hp
def cC {α : Type} (f : α → FV) (l : List α) : Prop := (((l.map f).length : Nat) : Int) = ((l.length : Nat) : Int)
theorem lenC_ok {α : Type} (f : α → FV) (l : List α) : cC f l := by unfold cC; rw [List.length_map]
def Cz (a b : UInt8) : Prop := decide (((a.toNat : Nat) : Int) = ((b.toNat : Nat) : Int)) = decide (a = b)
theorem zR (a b : UInt8) : Cz a b := decide_eq_decide.2 ⟨fun h => UInt8.toNat_inj.1 (by omega),fun h => by rw [h]⟩
def Bs (a b : UInt8) : Prop := (!decide (((a.toNat : Nat) : Int) = ((b.toNat : Nat) : Int))) = !decide (a = b)
theorem zt (a b : UInt8) : Bs a b := congrArg (!·) (zR a b)
def oh (a b : UInt16) : Prop := decide (((a.toNat : Nat) : Int) = ((b.toNat : Nat) : Int)) = decide (a = b)
theorem eqC16_ok (a b : UInt16) : oh a b := decide_eq_decide.2 ⟨fun h => UInt16.toNat_inj.1 (by omega),fun h => by rw [h]⟩
def qC (a b : UInt16) : Prop := (!decide (((a.toNat : Nat) : Int) = ((b.toNat : Nat) : Int))) = !decide (a = b)
theorem nk (a b : UInt16) : qC a b := congrArg (!·) (eqC16_ok a b)
def lL (r : Option (List Prop × aI × Nat × ah)) (ks : List Nat) (fr : Bool) : Option (List Prop × aI × Nat × ah) :=
  match fr with
  | false => none
  | true => match r with
    | some (cs,e,n,H) => some (cs,sel e ks,n,H)
    | none => none
def nL (env : aI) (l : List Oper) : Bool := (dsts l).all fun d => (look env d).isNone
theorem lK {r : Option (List Prop × aI × Nat × ah)}{ks : List Nat}{fr : Bool}{cs : List Prop}{E : aI}{n : Nat}{H : ah} (h : lL r ks fr = some (cs,E,n,H)) : fr = true ∧ ∃ e,r = some (cs,e,n,H) ∧ E = sel e ks := by
  unfold lL at h
  split at h
  · cases h
  · split at h
    · cases h; exact ⟨rfl,_,rfl,rfl⟩
    · cases h
theorem tK (ht : TabOk P tab) (hnt : c.nt = nt) {Q : cH}{m : Bool}{f n : Nat}{us : List XA}{l : List Oper}{env env' E : aI}{nx nx' : Nat}{H H' : ah}{cs : List Prop} (h : dV P m tab nt ops f us (l.take n) env nx H = some (cs,env',nx',H')) (hc : AllP cs)
    (he : ∀ k p,look E k = some p → look env' k = some p) (k : R P c ops (l.drop n) E nx' H' Q) : R P c ops l env nx H Q :=
  uG n (mid := fun e n' H'' => e = env' ∧ n' = nx' ∧ H'' = H') (xGo_ok ht hnt h hc (bC ⟨rfl,rfl,rfl⟩)) (by rintro e n' H'' ⟨rfl,rfl,rfl⟩; exact qz he k)
theorem uI {P : Program}{m : Bool}{f : Nat}{us : List XA}{l : List Oper}{env env' : aI}{nx nx' : Nat}{H H' : ah}{cs : List Prop}{ks : List Nat} (h : dV P m tab nt ops f us l env nx H = some (cs,env',nx',H')) (hf : nL env l = true) : ∀ k p,look (sel env' ks ++ env) k = some p → look env' k = some p := by
  intro k p hk
  rw [cB] at hk
  cases hs : look (sel env' ks) k with
  | some q => rw [hs] at hk; cases hk; exact look_sel hs
  | none =>
    rw [hs] at hk
    have hk : look env k = some p := hk
    rw [fM h k (fun hm => by have := List.all_eq_true.1 hf k hm; rw [hk] at this; cases this)]
    exact hk
theorem CG (ht : TabOk P tab) (hnt : c.nt = nt) {Q : cH}{l : List Oper}{env : aI}{nx : Nat}{H : ah} (n : Nat) (us : List XA) (cs : List Prop) (D : aI) (h : (lL (dV P false tab nt ops 600 us (l.take n) env nx H) (D.map Prod.fst) (nL env (l.take n))).map (fun r => (r.1,r.2.1)) = some (cs,D)) (hc : AllP cs)
    (k : R P c ops (l.drop n) (D ++ env) nx H Q) : R P c ops l env nx H Q := by
  obtain ⟨⟨cs0,E0,n0,H0⟩,h1,h2⟩ := Option.map_eq_some_iff.1 h
  cases h2
  obtain ⟨hf,e,hr,hD⟩ := lK h1
  obtain ⟨z1,z2⟩ := xGo_pure hr
  subst z1; subst z2
  exact tK ht hnt hr hc (E := E0 ++ env) (by rw [hD]; exact uI hr hf) k
theorem CH (ht : TabOk P tab) (hnt : c.nt = nt) {Q : cH}{l : List Oper}{env : aI}{nx : Nat}{H : ah} (n : Nat) (us : List XA) (cs : List Prop) (D : aI) (nx' : Nat) (H' : ah) (h : lL (dV P true tab nt ops 600 us (l.take n) env nx H) (D.map Prod.fst) (nL env (l.take n)) = some (cs,D,nx',H')) (hc : AllP cs)
    (k : R P c ops (l.drop n) (D ++ env) nx' H' Q) : R P c ops l env nx H Q := by
  obtain ⟨hf,e,hr,hD⟩ := lK h
  exact tK ht hnt hr hc (E := D ++ env) (by rw [hD]; exact uI hr hf) k
theorem CJ (ht : TabOk P tab) (hnt : c.nt = nt) {Q : cH}{l : List Oper}{env : aI}{nx : Nat}{H : ah} (n : Nat) (us : List XA) (cs : List Prop) (E : aI) (nx' : Nat) (H' : ah) (h : lL (dV P true tab nt ops 600 us (l.take n) env nx H) (E.map Prod.fst) true = some (cs,E,nx',H')) (hc : AllP cs)
    (k : R P c ops (l.drop n) E nx' H' Q) : R P c ops l env nx H Q := by
  obtain ⟨_,e,hr,hD⟩ := lK h
  refine tK ht hnt hr hc (E := E) (fun k p hk => ?_) k
  rw [hD] at hk; exact look_sel hk
end
end Go.Proofs.YtlcmbkkimgdnmaaGreat.Pv
