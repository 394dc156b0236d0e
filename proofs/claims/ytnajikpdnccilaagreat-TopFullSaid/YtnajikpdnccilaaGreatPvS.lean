/- An operation on a part of what is known; the rest stays. -/
import Derived.Test.YtnajikpdnccilaaGreatPvR
set_option linter.unusedVariables false
set_option linter.unusedSimpArgs false
namespace Go.Proofs.YtnajikpdnccilaaGreat.Pv
open Go

section
variable {P : Program} {tab : Tab} {c : Ctx} {env : Env} {H : Heap}

/-- The context in which a part stands: all else belongs to others. -/
def Ctx.part (c : Ctx) (w : World) (φ : Nat → Phys) (HS HR : Heap) (M : Nat) (hlow : ∀ b off, (c.So b off ∨ Own φ HR b off) → b < w.heap.size) : Ctx :=
  { w0 := w, So := fun b off => c.So b off ∨ Own φ HR b off, O0 := Own φ HS, k := M, φ0 := φ, nt := c.nt, low := hlow }

/-- Names of a part. -/
structure Part (H HS HR : Heap) : Prop where
  l : ∀ n o, look HS n = some o → look H n = some o
  r : ∀ n o, look HR n = some o → look H n = some o
  lr : ∀ n o o', look HS n = some o → look HR n = some o' → False
  all : ∀ n o, look H n = some o → look HS n = some o ∨ look HR n = some o

theorem Rep.lessNames {φ φ2 : Nat → Phys} {nx nx2 : Nat} {w : World} {S : Nat → Nat → Prop} {p : Nat → Bool} (hp : ∀ n, n < nx → p n = true → φ2 n = φ n ∧ n < nx2) {x : PV} {v : Value}
    (h : Rep φ nx w S x v) (hx : has p x = true) : Rep φ2 nx2 w S x v := by
  have e : Pv.ren (fun n => n) x = x := by
    have r1 : ∀ y, Pv.ren1 (fun n => n) y = y := by intro y; cases y <;> rfl
    have r1f : Pv.ren1 (fun n => n) = id := by funext y; exact r1 y
    have r2 : ∀ y, Pv.ren2 (fun n => n) y = y := by
      intro y; cases y <;> simp [Pv.ren2, r1f, r1]
    have r2f : Pv.ren2 (fun n => n) = id := by funext y; exact r2 y
    cases x <;> simp [Pv.ren, r2f, r2]
  have := h.ren (τ := fun n => n) (k := nx2) (φ2 := φ2) hp hx
  rwa [e] at this

theorem SatO.lessNames {φ φ2 : Nat → Phys} {nx nx2 : Nat} {w : World} {S : Nat → Nat → Prop} {p : Nat → Bool} (hp : ∀ n, n < nx → p n = true → φ2 n = φ n ∧ n < nx2) {n : Nat} {o : Obj}
    (he : φ2 n = φ n) (h : SatO φ nx w S n o) (ho : hasO p o = true) : SatO φ2 nx2 w S n o := by
  have r1f : ren1 (fun n => n) = id := by funext y; cases y <;> rfl
  have r2f : ren2 (fun n => n) = id := by funext y; cases y <;> simp [ren2, r1f] <;> rfl
  have e : renO (fun n => n) o = o := by cases o <;> simp [renO, r2f]
  have := h.ren (τ := fun n => n) (k := nx2) (φ2 := φ2) (m := n) hp (fun _ _ => Iff.rfl) he ho
  rwa [e] at this

theorem StΦ.part {N M : Nat} {φ : Nat → Phys} {tmps : Array Value} {w : World} (hs : StΦ c N env H φ tmps w) {eS : Env} {HS HR : Heap} (hp : Part H HS HR) (hM : M ≤ N)
    (he : ∀ k x, look eS k = some x → look env k = some x ∧ has (fun n => decide (n < M)) x = true) (hH : ∀ n o, look HS n = some o → n < M ∧ hasO (fun n => decide (n < M)) o = true) :
    ∃ hlow, StΦ (c.part w φ HS HR M hlow) M eS HS φ tmps w ∧ ∀ b off, SS c.So φ H b off ↔ SS (c.part w φ HS HR M hlow).So φ HS b off := by
  have hlow : ∀ b off, (c.So b off ∨ Own φ HR b off) → b < w.heap.size := by
    rintro b off (h | ⟨n, o, m1, m2, m3, m4⟩)
    · exact Nat.lt_of_lt_of_le (c.low _ _ h) hs.ext.size
    · rw [← m3]; exact (hs.ok.obj n o (hp.r n o m1)).2.lt m2
  refine ⟨hlow, ?_⟩
  have hSS : ∀ b off, SS c.So φ H b off ↔ SS (c.part w φ HS HR M hlow).So φ HS b off := by
    intro b off
    constructor
    · rintro (h | ⟨n, o, m1, m2⟩)
      · exact .inl (.inl h)
      · rcases hp.all n o m1 with h | h
        · exact .inr ⟨n, o, h, m2⟩
        · exact .inl (.inr ⟨n, o, h, m2⟩)
    · rintro ((h | ⟨n, o, m1, m2⟩) | ⟨n, o, m1, m2⟩)
      · exact .inl h
      · exact .inr ⟨n, o, hp.r n o m1, m2⟩
      · exact .inr ⟨n, o, hp.l n o m1, m2⟩
  have hSe : SS c.So φ H = SS (c.part w φ HS HR M hlow).So φ HS := by funext b off; exact propext (hSS b off)
  refine ⟨⟨⟨fun n o hn => ?_, fun n m o1 o2 h1 h2 => hs.ok.dis n m o1 o2 (hp.l _ _ h1) (hp.l _ _ h2), fun n o hn hnil off => ?_⟩, fun k x hk => ?_, Ext.refl _ _, ⟨Nat.le_refl _, fun _ _ => rfl⟩, hs.size⟩, hSS⟩
  · obtain ⟨a, b⟩ := hs.ok.obj n o (hp.l n o hn)
    obtain ⟨d, e⟩ := hH n o hn
    rw [← hSe]
    exact ⟨d, b.lessNames (fun n _ hn => ⟨rfl, by simpa using hn⟩) rfl e⟩
  · rintro (h | ⟨m, o2, m1, m2, m3, m4⟩)
    · exact hs.ok.out n o (hp.l n o hn) hnil off h
    · refine hs.ok.dis m n o2 o (hp.r m o2 m1) (hp.l n o hn) (fun e => ?_) m2 hnil m3
      subst e; exact hp.lr m o o2 hn m1
  · obtain ⟨a, b⟩ := he k x hk
    obtain ⟨v, v1, v2⟩ := hs.env k x a
    rw [← hSe]
    exact ⟨v, v1, v2.lessNames (fun n _ hn => ⟨rfl, by simpa using hn⟩) b⟩

/-- The part, put back. -/
theorem StΦ.whole {N M M' : Nat} {φ φ' : Nat → Phys} {tmps : Array Value} {w w' : World} (hs : StΦ c N env H φ tmps w) {eS : Env} {HS HR HS' : Heap} (hp : Part H HS HR) (hM : M ≤ M') (hM' : M' ≤ N) {hlow}
    (h : StΦ (c.part w φ HS HR M hlow) M' eS HS' φ' tmps w') {env' : Env} (he : ∀ k x, look env' k = some x → look env k = some x ∧ has (fun n => decide (n < M) || decide (M' ≤ n)) x = true)
    (hR : ∀ n o, look HR n = some o → (n < M ∨ M' ≤ n) ∧ hasO (fun n => decide (n < M) || decide (M' ≤ n)) o = true) (hname : ∀ n o o', look HS' n = some o → look HR n = some o' → False)
    (hk : c.k ≤ M) {pv : PV} {v : Value} (hr : Rep φ' M' w' (SS (c.part w φ HS HR M hlow).So φ' HS') pv v) (hpv : has (fun _ => true) pv = true) (hHS' : ∀ n o, look HS' n = some o → hasO (fun _ => true) o = true) :
    ∃ φ2, StΦ c N env' (HS' ++ HR) φ2 tmps w' ∧ Rep φ2 N w' (SS c.So φ2 (HS' ++ HR)) pv v := by
  let φ2 : Nat → Phys := fun n => if n < M' then φ' n else φ n
  have hkeep : ∀ n, n < M → φ' n = φ n := h.keep.2
  have hφ2a : ∀ n, n < M' → φ2 n = φ' n := fun n hn => by simp only [φ2]; rw [if_pos hn]
  have hφ2b : ∀ n, (n < M ∨ M' ≤ n) → φ2 n = φ n := by
    intro n hn
    simp only [φ2]
    split
    · rcases hn with h | h
      · exact hkeep n h
      · omega
    · rfl
  have hext : Ext w w' (Own φ HS) (Own φ' HS') := h.ext
  have hOwn : ∀ b off, Own φ2 (HS' ++ HR) b off ↔ (Own φ' HS' b off ∨ Own φ HR b off) := by
    intro b off
    constructor
    · rintro ⟨n, o, m1, m2, m3, m4⟩
      rw [look_append] at m1
      cases hq : look HS' n with
      | some o1 =>
        rw [hq] at m1; simp at m1; subst m1
        have := (h.ok.obj n o1 hq).1
        rw [hφ2a n this] at m2 m3 m4
        exact .inl ⟨n, o1, hq, m2, m3, m4⟩
      | none =>
        rw [hq] at m1; simp at m1
        rw [hφ2b n (hR n o m1).1] at m2 m3 m4
        exact .inr ⟨n, o, m1, m2, m3, m4⟩
    · rintro (⟨n, o, m1, m2, m3, m4⟩ | ⟨n, o, m1, m2, m3, m4⟩)
      · have := (h.ok.obj n o m1).1
        exact ⟨n, o, by rw [look_append, m1]; rfl, by rw [hφ2a n this]; exact m2, by rw [hφ2a n this]; exact m3, by rw [hφ2a n this]; exact m4⟩
      · have hnone : look HS' n = none := by
          cases hq : look HS' n with
          | none => rfl
          | some o1 => exact (hname n o1 o hq m1).elim
        have hf := hφ2b n (hR n o m1).1
        exact ⟨n, o, by rw [look_append, hnone]; simpa using m1, by rw [hf]; exact m2, by rw [hf]; exact m3, by rw [hf]; exact m4⟩
  have hSS : ∀ b off, SS (c.part w φ HS HR M hlow).So φ' HS' b off ↔ SS c.So φ2 (HS' ++ HR) b off := by
    intro b off
    constructor
    · rintro ((h | h) | h)
      · exact .inl h
      · exact .inr ((hOwn b off).2 (.inr h))
      · exact .inr ((hOwn b off).2 (.inl h))
    · rintro (h | h)
      · exact .inl (.inl h)
      · rcases (hOwn b off).1 h with h | h
        · exact .inr h
        · exact .inl (.inr h)
  have hSe : SS (c.part w φ HS HR M hlow).So φ' HS' = SS c.So φ2 (HS' ++ HR) := by funext b off; exact propext (hSS b off)
  have hOS : ∀ b off, Own φ HS b off → Own φ H b off := by rintro b off ⟨n, o, m1, m2⟩; exact ⟨n, o, hp.l n o m1, m2⟩
  have hE : Ext w w' (Own φ H) (Own φ2 (HS' ++ HR)) := by
    refine ⟨hext.os, hext.tape, hext.output, hext.size, fun b hb hO => hext.blk b hb fun off ho => hO off (hOS b off ho), fun b off hb hO => hext.cell b off hb fun ho => hO (hOS b off ho), ?_⟩
    intro b off hb hO
    rcases (hOwn b off).1 hO with h | ⟨n, o, m1, m2⟩
    · exact hOS b off (hext.own b off hb h)
    · exact ⟨n, o, hp.r n o m1, m2⟩
  have hmono : Mono w (SS c.So φ H) w' (SS c.So φ2 (HS' ++ HR)) := hE.mono
  have hless : ∀ n, n < N → (decide (n < M) || decide (M' ≤ n)) = true → φ2 n = φ n ∧ n < N := fun n hn hd => ⟨hφ2b n (by simpa using hd), hn⟩
  have hnew : ∀ n, n < M' → (fun _ : Nat => true) n = true → φ2 n = φ' n ∧ n < N := fun n hn _ => ⟨hφ2a n hn, by omega⟩
  refine ⟨φ2, ⟨⟨fun n o hn => ?_, fun n m o1 o2 h1 h2 hne n1 n2 => ?_, fun n o hn hnil off hso => ?_⟩, fun k x hk' => ?_, ?_, ⟨Nat.le_trans hk (by omega), fun n hn => ?_⟩, hs.size⟩, ?_⟩
  · rw [look_append] at hn
    cases hq : look HS' n with
    | some o1 =>
      rw [hq] at hn; simp at hn; subst hn
      obtain ⟨a, b⟩ := h.ok.obj n o1 hq
      rw [hSe] at b
      exact ⟨by omega, b.lessNames hnew (hφ2a n a) (hHS' n o1 hq)⟩
    | none =>
      rw [hq] at hn; simp at hn
      obtain ⟨a, b⟩ := hs.ok.obj n o (hp.r n o hn)
      obtain ⟨d, e⟩ := hR n o hn
      refine ⟨a, ?_⟩
      have b2 := b.step (φ' := φ) (nx' := N) (w' := w') (S' := SS c.So φ2 (HS' ++ HR)) (fun _ _ => rfl) (Nat.le_refl _) hmono a fun hf => by
        refine hext.blk _ (b.lt hf) fun off ho => ?_
        obtain ⟨m, o2, m1, m2, m3, m4⟩ := ho
        refine hs.ok.dis m n o2 o (hp.l m o2 m1) (hp.r n o hn) (fun e => ?_) m2 hf m3
        subst e; exact hp.lr m o2 o m1 hn
      exact b2.lessNames hless (hφ2b n d) e
  · rw [look_append] at h1 h2
    cases hq1 : look HS' n with
    | some oo1 =>
      have a1 := (h.ok.obj n oo1 hq1).1
      cases hq2 : look HS' m with
      | some oo2 =>
        have a2 := (h.ok.obj m oo2 hq2).1
        rw [hφ2a n a1] at n1 ⊢; rw [hφ2a m a2] at n2 ⊢
        exact h.ok.dis n m oo1 oo2 hq1 hq2 hne n1 n2
      | none =>
        rw [hq2] at h2; simp at h2
        rw [hφ2a n a1] at n1 ⊢
        have hf := hφ2b m (hR m o2 h2).1
        rw [hf] at n2 ⊢
        intro e
        exact h.ok.out n oo1 hq1 n1 (lim (φ m) o2) (.inr ⟨m, o2, h2, n2, e.symm, Nat.le_refl _⟩)
    | none =>
      rw [hq1] at h1; simp at h1
      have hf1 := hφ2b n (hR n o1 h1).1
      rw [hf1] at n1 ⊢
      cases hq2 : look HS' m with
      | some oo2 =>
        have a2 := (h.ok.obj m oo2 hq2).1
        rw [hφ2a m a2] at n2 ⊢
        intro e
        exact h.ok.out m oo2 hq2 n2 (lim (φ n) o1) (.inr ⟨n, o1, h1, n1, e, Nat.le_refl _⟩)
      | none =>
        rw [hq2] at h2; simp at h2
        have hf2 := hφ2b m (hR m o2 h2).1
        rw [hf2] at n2 ⊢
        exact hs.ok.dis n m o1 o2 (hp.r _ _ h1) (hp.r _ _ h2) hne n1 n2
  · rw [look_append] at hn
    cases hq : look HS' n with
    | some o1 =>
      have a := (h.ok.obj n o1 hq).1
      rw [hφ2a n a] at hnil hso
      exact h.ok.out n o1 hq hnil off (.inl hso)
    | none =>
      rw [hq] at hn; simp at hn
      have hf := hφ2b n (hR n o hn).1
      rw [hf] at hnil hso
      exact hs.ok.out n o (hp.r n o hn) hnil off hso
  · obtain ⟨a, b⟩ := he k x hk'
    obtain ⟨u, u1, u2⟩ := hs.env k x a
    exact ⟨u, u1, (u2.step (φ' := φ) (nx' := N) (fun _ _ => rfl) (Nat.le_refl _) hmono).lessNames hless b⟩
  · have e := hs.ext.trans hE
    exact e
  · rw [hφ2b n (.inl (by omega))]; exact hs.keep.2 n hn
  · rw [hSe] at hr
    exact hr.lessNames hnew hpv
end
end Go.Proofs.YtnajikpdnccilaaGreat.Pv
