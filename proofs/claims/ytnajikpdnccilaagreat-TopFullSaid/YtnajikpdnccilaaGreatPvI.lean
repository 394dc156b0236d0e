/- Slices: made, cut, appended to, copied; what is given away stays as it is. -/
import Derived.Test.YtnajikpdnccilaaGreatPvG
import Derived.Laws.MakeOwn
set_option linter.unusedVariables false
set_option linter.unusedSimpArgs false
namespace Go.Proofs.YtnajikpdnccilaaGreat.Pv
open Go

section
variable {P : Program} {tab : Tab} {c : Ctx} {nx : Nat} {env : Env} {H : Heap} {K : PV → Nat → Heap → Prop} {o : Oper}

/-- A buffer is written no more (but behind its end). -/
theorem StΦ.freeze {φ : Nat → Phys} {tmps : Array Value} {w : World} (h : StΦ c nx env H φ tmps w) {n : Nat} {wr : Bool} {sz : Nat} {l : List FV} (hn : look H n = some (.buf wr sz l)) :
    StΦ c nx env (hput H n (.buf false sz l)) φ tmps w := by
  obtain ⟨hnx, e1, e2, e3⟩ := h.ok.obj n _ hn
  rcases e3 with ⟨hnil, hl⟩ | ⟨hnil, arr, ty, a1, a2, a3, a4, a5⟩
  · subst hl
    have hl : ∀ m o, look (hput H n (.buf false sz [])) m = some o → m ≠ n → look H m = some o := by
      intro m o hm hne
      unfold hput at hm
      rw [look_cons_ne _ _ (fun e => hne e.symm), look_drop_ne _ (fun e => hne e.symm)] at hm
      exact hm
    have hext : Ext w w (Own φ H) (Own φ (hput H n (.buf false sz []))) := by
      refine ⟨rfl, rfl, rfl, Nat.le_refl _, fun b hb _ => rfl, fun b off hb _ => rfl, ?_⟩
      rintro b off hlt ⟨m, o, h1, h2, h3⟩
      by_cases e : m = n
      · subst e; rw [hnil] at h2; cases h2
      · exact ⟨m, o, hl m o h1 e, h2, h3⟩
    refine h.next (fun _ _ => rfl) (Nat.le_refl _) ?_ hext
    refine ⟨fun m o hm => ?_, fun a b o1 o2 h1 h2 hne n1 n2 => ?_, fun m o hm hmn => ?_⟩
    · by_cases e : m = n
      · subst e; unfold hput at hm; rw [look_cons_same] at hm; cases hm
        exact ⟨hnx, e1, e2, .inl ⟨hnil, rfl⟩⟩
      · obtain ⟨k1, k2⟩ := h.ok.obj m o (hl m o hm e)
        exact ⟨k1, k2.step (fun _ _ => rfl) (Nat.le_refl _) hext.mono k1 fun _ => rfl⟩
    · by_cases ea : a = n
      · subst ea; rw [hnil] at n1; cases n1
      · by_cases eb : b = n
        · subst eb; rw [hnil] at n2; cases n2
        · exact h.ok.dis a b o1 o2 (hl a o1 h1 ea) (hl b o2 h2 eb) hne n1 n2
    · by_cases e : m = n
      · subst e; rw [hnil] at hmn; cases hmn
      · exact h.ok.out m o (hl m o hm e) hmn
  · have hw := h.write (n := n) (m := n) (nx' := nx) (o' := .buf false sz l) (p := φ n) (w' := w) hn hnil (.inl ⟨rfl, rfl, rfl⟩) hnil rfl
      (by cases wr <;> simp [lim]) rfl rfl rfl rfl (fun b hb => rfl) (fun q hq => rfl) (fun hm => by
        rw [upd_self] at hm ⊢
        exact ⟨e1, e2, .inr ⟨hnil, arr, ty, a1, a2, a3, a4, fun i x j d h1 h2 => by
          obtain ⟨u, b1, b2, b3⟩ := a5 i x j d h1 h2
          exact ⟨u, b1, b2, b3.step hm⟩⟩⟩)
    rw [upd_self] at hw
    exact hw

/-- A slice of a buffer that is written no more. -/
theorem StΦ.frozen_ref {φ : Nat → Phys} {tmps : Array Value} {w : World} (h : StΦ c nx env H φ tmps w) {n lo : Nat} {hi : Option Nat} {sz : Nat} {l : List FV} (hn : look H n = some (.buf false sz l))
    {v : Value} (hr : Rep φ nx w (SS c.So φ H) (.ref n lo hi) v) : RepF w (SS c.So φ H) (.sl sz false (view lo hi l)) v := by
  obtain ⟨hnx, e1, e2, e3⟩ := h.ok.obj n _ hn
  cases hr with
  | @refnil _ hz _ hnil hlen hh0 =>
    rw [e1] at hlen
    have : l = [] := List.eq_nil_of_length_eq_zero hlen
    subst this
    have hv0 : view 0 hi ([] : List FV) = [] := by cases hi <;> simp [view]
    rw [hv0]; exact .slnil _ _
  | @ref _ _ _ cap A hlt hnil b1 b2 b3 b4 b5 =>
    rcases e3 with ⟨e3, _⟩ | ⟨_, arr, ty, a1, a2, a3, a4, a5⟩
    · rw [hnil] at e3; cases e3
    rw [e1] at b1 b2 b4 ⊢
    have hvl := view_length (lo := lo) b2
    by_cases hc : cap = 0
    · have hempty : view lo hi l = [] := List.eq_nil_of_length_eq_zero (by rw [hvl]; omega)
      have h0 : hi.getD l.length - lo = 0 := by omega
      rw [h0, hempty, hc]
      exact .slemp _ _ A
    · have hA := b5 hc
      subst hA
      rw [← hvl]
      have hget : ∀ (i : Nat) x (j : Nat) d, (view lo hi l)[i]? = some x → x.cells[j]? = some d →
          ∃ u, arr[(φ n).base + (lo + i) * sz + j]? = some u ∧ one u = true ∧ RepF w (SS c.So φ H) d u := by
        intro i x j d h1 h2
        have hi' : i < (view lo hi l).length := (List.getElem?_eq_some_iff.1 h1).1
        rw [view_get b2 hi'] at h1
        exact a5 _ x j d h1 h2
      refine .sl sz false _ _ _ cap (fun i j => (arr[(φ n).base + (lo + i) * sz + j]?).getD undef) (by rw [hvl]; omega) (fun e => by cases e) (fun i x hx => ?_) (fun i x j d h1 h2 => ?_) (fun i x j d h1 h2 => ?_)
      · have hi' : i < (view lo hi l).length := (List.getElem?_eq_some_iff.1 hx).1
        rw [view_get b2 hi'] at hx
        exact a4 _ x hx
      · obtain ⟨u, k1, k2, k3⟩ := hget i x j d h1 h2
        have hidx : (φ n).base + lo * (φ n).sz + i * sz + j = (φ n).base + (lo + i) * sz + j := by rw [e2, Nat.add_mul]; omega
        rw [hidx]
        refine ⟨by rw [cell_heap a1, k1]; rfl, ?_, by rw [k1]; exact k2⟩
        have hi' : i < (view lo hi l).length := (List.getElem?_eq_some_iff.1 h1).1
        rw [view_get b2 hi'] at h1
        have hil : lo + i < l.length := (List.getElem?_eq_some_iff.1 h1).1
        have hjs : j < sz := by rw [← a4 _ x h1]; exact (List.getElem?_eq_some_iff.1 h2).1
        have hoff : (φ n).base + (lo + i) * sz + j < (φ n).base + l.length * sz := by
          have := Nat.mul_le_mul_right sz (show lo + i + 1 ≤ l.length by omega)
          rw [Nat.add_mul] at this; omega
        rintro (hs | ⟨m, o', m1, m2, m3, m4⟩)
        · exact h.ok.out n _ hn hnil _ hs
        · by_cases e : m = n
          · subst e; rw [hn] at m1; cases m1
            simp only [lim] at m4; omega
          · exact h.ok.dis m n o' _ m1 hn e m2 hnil m3
      · obtain ⟨u, k1, k2, k3⟩ := hget i x j d h1 h2
        rw [k1]; exact k3
end
end Go.Proofs.YtnajikpdnccilaaGreat.Pv
