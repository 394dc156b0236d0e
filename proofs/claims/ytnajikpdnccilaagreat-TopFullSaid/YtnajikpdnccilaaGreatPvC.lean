/- How what is known of memory goes on over a new block, a written block, one that is let go. -/
import Derived.Test.YtnajikpdnccilaaGreatPvB
namespace Go.Proofs.YtnajikpdnccilaaGreat.Pv
open Go

def upd (φ : Nat → Phys) (n : Nat) (p : Phys) : Nat → Phys := fun m => if m = n then p else φ m
theorem upd_same (φ : Nat → Phys) (n : Nat) (p : Phys) : upd φ n p n = p := by simp [upd]
theorem upd_ne (φ : Nat → Phys) {n m : Nat} (p : Phys) (h : m ≠ n) : upd φ n p m = φ m := by simp [upd, h]

theorem SatO.step {φ φ' : Nat → Phys} {nx nx' : Nat} {w w' : World} {S S' : Nat → Nat → Prop} (hφ : ∀ n, n < nx → φ' n = φ n) (hn : nx ≤ nx') (hm : Mono w S w' S') {n : Nat} (hlt : n < nx)
    (hb : (φ n).nil = false → w'.heap[(φ n).blk]? = w.heap[(φ n).blk]?) {o : Obj} (h : SatO φ nx w S n o) : SatO φ' nx' w' S' n o := by
  cases o with
  | obj cs =>
    obtain ⟨h0, arr, ty, h1, h2, h3⟩ := h
    simp only [SatO, hφ n hlt]
    refine ⟨h0, arr, ty, by rw [hb h0]; exact h1, h2, fun i c hc => ?_⟩
    obtain ⟨u, a, b, d⟩ := h3 i c hc
    exact ⟨u, a, b, d.step hφ hn hm⟩
  | buf wr sz l =>
    obtain ⟨h1, h2, h3⟩ := h
    simp only [SatO, hφ n hlt]
    refine ⟨h1, h2, ?_⟩
    rcases h3 with h3 | ⟨h0, arr, ty, k1, k2, k3, k4, k5⟩
    · exact .inl h3
    · refine .inr ⟨h0, arr, ty, by rw [hb h0]; exact k1, k2, k3, k4, fun i x j c e1 e2 => ?_⟩
      obtain ⟨u, a, b, d⟩ := k5 i x j c e1 e2
      exact ⟨u, a, b, d.step hm⟩
  | mp r es =>
    obtain ⟨h0, h1, ents, clock, h2, h3⟩ := h
    simp only [SatO, hφ n hlt]
    exact ⟨h0, h1, ents, clock, by rw [← h1, hb h0, h1]; exact h2, h3⟩

theorem SatO.lt {φ : Nat → Phys} {nx : Nat} {w : World} {S : Nat → Nat → Prop} {n : Nat} {o : Obj} (h : SatO φ nx w S n o) (hn : (φ n).nil = false) : (φ n).blk < w.heap.size := by
  have aux : ∀ {b : Nat} {x : Go.Obj}, w.heap[b]? = some x → b < w.heap.size := by
    intro b x hx
    rcases Nat.lt_or_ge b w.heap.size with h | h
    · exact h
    · rw [Array.getElem?_eq_none h] at hx; cases hx
  cases o with
  | obj cs => obtain ⟨_, arr, ty, h1, _⟩ := h; exact aux h1
  | buf wr sz l =>
    obtain ⟨_, _, h3⟩ := h
    rcases h3 with ⟨h3, _⟩ | ⟨_, arr, ty, h1, _⟩
    · rw [hn] at h3; cases h3
    · exact aux h1
  | mp r es => obtain ⟨_, h1, ents, clock, h2, _⟩ := h; rw [h1]; exact aux h2

section
variable {c : Ctx} {nx : Nat} {env : Env} {H : Heap} {φ : Nat → Phys} {tmps : Array Value} {w w' : World}

theorem Own.cons {φ' : Nat → Phys} {n : Nat} {o : Obj} {b off : Nat} (h : Own φ' ((n, o) :: H) b off) :
    ((φ' n).nil = false ∧ (φ' n).blk = b ∧ lim (φ' n) o ≤ off) ∨ ∃ m o', m ≠ n ∧ look H m = some o' ∧ (φ' m).nil = false ∧ (φ' m).blk = b ∧ lim (φ' m) o' ≤ off := by
  obtain ⟨m, o', h1, h2, h3, h4⟩ := h
  by_cases e : n = m
  · subst e; rw [look_cons_same] at h1; cases h1; exact .inl ⟨h2, h3, h4⟩
  · rw [look_cons_ne _ _ e] at h1; exact .inr ⟨m, o', fun h => e h.symm, h1, h2, h3, h4⟩

/-- A new block, of a new name. -/
theorem StΦ.push (h : StΦ c nx env H φ tmps w) {o : Obj} {p : Phys} {x : Go.Obj} (hh : w'.heap = w.heap.push x) (ho : w'.os = w.os) (ht : w'.tape = w.tape) (hu : w'.output = w.output)
    (hb : p.blk = w.heap.size)
    (hs : Mono w (SS c.So φ H) w' (SS c.So (upd φ nx p) ((nx, o) :: H)) → SatO (upd φ nx p) (nx + 1) w' (SS c.So (upd φ nx p) ((nx, o) :: H)) nx o) : StΦ c (nx + 1) env ((nx, o) :: H) (upd φ nx p) tmps w' := by
  have hSo : ∀ off, ¬ c.So w.heap.size off := fun off hs => by have := c.low _ _ hs; have := h.ext.size; omega
  have hφ : ∀ n, n < nx → upd φ nx p n = φ n := fun n hn => upd_ne _ _ (by omega)
  have hold : ∀ b, b < w.heap.size → w'.heap[b]? = w.heap[b]? := fun b hb => by rw [hh, Array.getElem?_push]; rw [if_neg (by omega)]
  have hext : Ext w w' (Own φ H) (Own (upd φ nx p) ((nx, o) :: H)) := by
    refine ⟨ho, ht, hu, by rw [hh]; simp, fun b hb _ => hold b hb, fun b off hb _ => World.cell?_of_block (a := ⟨b, off, none⟩) (hold b hb), ?_⟩
    intro b off hlt hO
    rcases hO.cons with ⟨_, h2, _⟩ | ⟨m, o', hm, k1, k2, k3, k4⟩
    · rw [upd_same, hb] at h2; omega
    · have := (h.ok.obj m o' k1).1
      rw [hφ m this] at k2 k3 k4
      exact ⟨m, o', k1, k2, k3, k4⟩
  have hm : Mono w (SS c.So φ H) w' (SS c.So (upd φ nx p) ((nx, o) :: H)) := hext.mono
  refine h.next hφ (Nat.le_succ _) ?_ hext
  refine ⟨fun n o' hk => ?_, fun n m o1 o2 h1 h2 hne n1 n2 => ?_, fun n o' hk hnil off => ?_⟩
  · by_cases e : nx = n
    · subst e; rw [look_cons_same] at hk; cases hk; exact ⟨Nat.lt_succ_self _, hs hm⟩
    · rw [look_cons_ne _ _ e] at hk
      obtain ⟨k1, k2⟩ := h.ok.obj n o' hk
      exact ⟨by omega, k2.step hφ (Nat.le_succ _) hm k1 fun hf => hold _ (k2.lt hf)⟩
  · by_cases e1 : nx = n
    · by_cases e2 : nx = m
      · omega
      · rw [look_cons_ne _ _ e2] at h2
        obtain ⟨k1, k2⟩ := h.ok.obj m o2 h2
        rw [hφ m k1] at n2 ⊢
        rw [← e1, upd_same, hb]
        have := k2.lt n2
        omega
    · rw [look_cons_ne _ _ e1] at h1
      obtain ⟨k1, k2⟩ := h.ok.obj n o1 h1
      rw [hφ n k1] at n1 ⊢
      by_cases e2 : nx = m
      · rw [← e2, upd_same, hb]
        have := k2.lt n1
        omega
      · rw [look_cons_ne _ _ e2] at h2
        obtain ⟨j1, j2⟩ := h.ok.obj m o2 h2
        rw [hφ m j1] at n2 ⊢
        exact h.ok.dis n m o1 o2 h1 h2 hne n1 n2
  · by_cases e : nx = n
    · rw [← e, upd_same, hb]; exact hSo off
    · rw [look_cons_ne _ _ e] at hk
      obtain ⟨k1, k2⟩ := h.ok.obj n o' hk
      rw [hφ n k1] at hnil ⊢
      exact h.ok.out n o' hk hnil off

/-- A name for a nil slice. -/
theorem StΦ.nilbuf (h : StΦ c nx env H φ tmps w) (wr : Bool) (sz : Nat) : StΦ c (nx + 1) env ((nx, .buf wr sz []) :: H) (upd φ nx ⟨0, 0, 0, 0, sz, true⟩) tmps w := by
  have hφ : ∀ n, n < nx → upd φ nx ⟨0, 0, 0, 0, sz, true⟩ n = φ n := fun n hn => upd_ne _ _ (by omega)
  have hext : Ext w w (Own φ H) (Own (upd φ nx ⟨0, 0, 0, 0, sz, true⟩) ((nx, .buf wr sz []) :: H)) := by
    refine ⟨rfl, rfl, rfl, Nat.le_refl _, fun b hb _ => rfl, fun b off hb _ => rfl, ?_⟩
    intro b off hlt hO
    rcases hO.cons with ⟨h1, _, _⟩ | ⟨m, o', hm, k1, k2, k3, k4⟩
    · rw [upd_same] at h1; cases h1
    · have := (h.ok.obj m o' k1).1
      rw [hφ m this] at k2 k3 k4
      exact ⟨m, o', k1, k2, k3, k4⟩
  refine h.next hφ (Nat.le_succ _) ?_ hext
  refine ⟨fun n o' hk => ?_, fun n m o1 o2 h1 h2 hne n1 n2 => ?_, fun n o' hk hnil off => ?_⟩
  · by_cases e : nx = n
    · subst e; rw [look_cons_same] at hk; cases hk; exact ⟨Nat.lt_succ_self _, by simp [SatO, upd_same]⟩
    · rw [look_cons_ne _ _ e] at hk
      obtain ⟨k1, k2⟩ := h.ok.obj n o' hk
      exact ⟨by omega, k2.step hφ (Nat.le_succ _) hext.mono k1 fun hf => rfl⟩
  · by_cases e1 : nx = n
    · rw [← e1, upd_same] at n1; cases n1
    · by_cases e2 : nx = m
      · rw [← e2, upd_same] at n2; cases n2
      · rw [look_cons_ne _ _ e1] at h1
        rw [look_cons_ne _ _ e2] at h2
        rw [hφ n (h.ok.obj n o1 h1).1] at n1 ⊢
        rw [hφ m (h.ok.obj m o2 h2).1] at n2 ⊢
        exact h.ok.dis n m o1 o2 h1 h2 hne n1 n2
  · by_cases e : nx = n
    · rw [← e, upd_same] at hnil; cases hnil
    · rw [look_cons_ne _ _ e] at hk
      rw [hφ n (h.ok.obj n o' hk).1] at hnil ⊢
      exact h.ok.out n o' hk hnil off

/-- Fewer names. -/
theorem StΦ.sub (h : StΦ c nx env H φ tmps w) {H' : Heap} (hl : ∀ m o, look H' m = some o → look H m = some o) : StΦ c nx env H' φ tmps w := by
  have hext : Ext w w (Own φ H) (Own φ H') := by
    refine ⟨rfl, rfl, rfl, Nat.le_refl _, fun b hb _ => rfl, fun b off hb _ => rfl, ?_⟩
    rintro b off hlt ⟨m, o, h1, h2⟩
    exact ⟨m, o, hl m o h1, h2⟩
  refine h.next (fun _ _ => rfl) (Nat.le_refl _) ?_ hext
  refine ⟨fun m o hm => ?_, fun a b o1 o2 h1 h2 => h.ok.dis a b o1 o2 (hl _ _ h1) (hl _ _ h2), fun m o hm => h.ok.out m o (hl _ _ hm)⟩
  obtain ⟨k1, k2⟩ := h.ok.obj m o (hl _ _ hm)
  exact ⟨k1, k2.step (fun _ _ => rfl) (Nat.le_refl _) hext.mono k1 fun _ => rfl⟩

/-- A name is let go. -/
theorem StΦ.let_go (h : StΦ c nx env H φ tmps w) (n : Nat) : StΦ c nx env (drop H n) φ tmps w := by
  refine h.sub fun m o hm => ?_
  by_cases e : n = m
  · subst e; rw [look_drop_same] at hm; cases hm
  · rwa [look_drop_ne _ e] at hm

/-- A block of its own is written: the name stays, or there is a new one. -/
theorem StΦ.write (h : StΦ c nx env H φ tmps w) {n m nx' : Nat} {o o' : Obj} {p : Phys} (hn : look H n = some o) (hnil : (φ n).nil = false) (hm : (m = n ∧ p = φ n ∧ nx' = nx) ∨ (m = nx ∧ nx' = nx + 1))
    (hpn : p.nil = false) (hpb : p.blk = (φ n).blk) (hl : lim (φ n) o ≤ lim p o')
    (ho : w'.os = w.os) (ht : w'.tape = w.tape) (hu : w'.output = w.output) (hz : w'.heap.size = w.heap.size) (hold : ∀ b, b ≠ (φ n).blk → w'.heap[b]? = w.heap[b]?)
    (hcell : ∀ off, off < lim (φ n) o → w'.cell? ⟨(φ n).blk, off, none⟩ = w.cell? ⟨(φ n).blk, off, none⟩)
    (hs : Mono w (SS c.So φ H) w' (SS c.So (upd φ m p) ((m, o') :: drop H n)) → SatO (upd φ m p) nx' w' (SS c.So (upd φ m p) ((m, o') :: drop H n)) m o') :
    StΦ c nx' env ((m, o') :: drop H n) (upd φ m p) tmps w' := by
  have hnx := (h.ok.obj n o hn).1
  have hφ : ∀ k, k < nx → upd φ m p k = φ k := by
    intro k hk
    rcases hm with ⟨rfl, rfl, _⟩ | ⟨rfl, _⟩
    · by_cases e : k = m
      · subst e; rw [upd_same]
      · rw [upd_ne _ _ e]
    · rw [upd_ne _ _ (by omega)]
  have hle : nx ≤ nx' := by rcases hm with ⟨_, _, rfl⟩ | ⟨_, rfl⟩ <;> omega
  have hmn : ∀ k o1, k ≠ m → look (drop H n) k = some o1 → k ≠ n ∧ look H k = some o1 ∧ k < nx := by
    intro k o1 hk h1
    by_cases e : n = k
    · subst e; rw [look_drop_same] at h1; cases h1
    · rw [look_drop_ne _ e] at h1; exact ⟨fun h => e h.symm, h1, (h.ok.obj k o1 h1).1⟩
  have hext : Ext w w' (Own φ H) (Own (upd φ m p) ((m, o') :: drop H n)) := by
    refine ⟨ho, ht, hu, by omega, fun b hb hO => hold b fun e => hO (lim (φ n) o) ⟨n, o, hn, hnil, e.symm, Nat.le_refl _⟩, fun b off hb hO => ?_, ?_⟩
    · by_cases e : b = (φ n).blk
      · subst e; exact hcell off (Nat.lt_of_not_le fun hle => hO ⟨n, o, hn, hnil, rfl, hle⟩)
      · exact World.cell?_of_block (a := ⟨b, off, none⟩) (hold b e)
    · intro b off hlt hO
      rcases hO.cons with ⟨_, h2, h3⟩ | ⟨k, o1, hk, k1, k2, k3, k4⟩
      · rw [upd_same] at h2 h3; exact ⟨n, o, hn, hnil, by rw [← h2, hpb], Nat.le_trans hl h3⟩
      · obtain ⟨a1, a2, a3⟩ := hmn k o1 hk k1
        rw [hφ k a3] at k2 k3 k4
        exact ⟨k, o1, a2, k2, k3, k4⟩
  refine h.next hφ hle ?_ hext
  refine ⟨fun k o1 hk => ?_, fun a b o1 o2 h1 h2 hne n1 n2 => ?_, fun k o1 hk hkn off => ?_⟩
  · by_cases e : m = k
    · subst e; rw [look_cons_same] at hk; cases hk
      exact ⟨by rcases hm with ⟨rfl, _, rfl⟩ | ⟨rfl, rfl⟩ <;> omega, hs hext.mono⟩
    · rw [look_cons_ne _ _ e] at hk
      obtain ⟨a1, a2, a3⟩ := hmn k o1 (fun h => e h.symm) hk
      have ks := (h.ok.obj k o1 a2).2
      exact ⟨by omega, ks.step hφ hle hext.mono a3 fun hf => hold _ (h.ok.dis k n o1 o a2 hn a1 hf hnil)⟩
  · by_cases e1 : m = a
    · by_cases e2 : m = b
      · omega
      · rw [look_cons_ne _ _ e2] at h2
        obtain ⟨a1, a2, a3⟩ := hmn b o2 (fun h => e2 h.symm) h2
        rw [hφ b a3] at n2 ⊢
        rw [← e1, upd_same, hpb]
        exact h.ok.dis n b o o2 hn a2 (fun h => a1 h.symm) hnil n2
    · rw [look_cons_ne _ _ e1] at h1
      obtain ⟨a1, a2, a3⟩ := hmn a o1 (fun h => e1 h.symm) h1
      rw [hφ a a3] at n1 ⊢
      by_cases e2 : m = b
      · rw [← e2, upd_same, hpb]
        exact h.ok.dis a n o1 o a2 hn a1 n1 hnil
      · rw [look_cons_ne _ _ e2] at h2
        obtain ⟨b1, b2, b3⟩ := hmn b o2 (fun h => e2 h.symm) h2
        rw [hφ b b3] at n2 ⊢
        exact h.ok.dis a b o1 o2 a2 b2 hne n1 n2
  · by_cases e : m = k
    · rw [← e, upd_same, hpb]; exact h.ok.out n o hn hnil off
    · rw [look_cons_ne _ _ e] at hk
      obtain ⟨a1, a2, a3⟩ := hmn k o1 (fun h => e h.symm) hk
      rw [hφ k a3] at hkn ⊢
      exact h.ok.out k o1 a2 hkn off
end
end Go.Proofs.YtnajikpdnccilaaGreat.Pv
