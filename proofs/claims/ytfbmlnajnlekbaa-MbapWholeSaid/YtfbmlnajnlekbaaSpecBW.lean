/- Streams cut in pieces: what is told is what the whole tells. -/
import Derived.Test.YtfbmlnajnlekbaaSpecB
namespace Go.Proofs.Ytfbmlnajnlekbaa
open Go Go.Proofs.Ytfbmlnajnlekbaa.Pv

theorem getD_left {α : Type} {l m : List α} {i : Nat} {d : α} (h : i < l.length) : (l ++ m).getD i d = l.getD i d := by
  rw [List.getD_eq_getElem?_getD, List.getD_eq_getElem?_getD, List.getElem?_append_left h]
theorem getN_app {x : List UInt8} (y : List UInt8) {i : Nat} (h : i + 1 < x.length) : getN (x ++ y) i = getN x i := by
  unfold getN
  rw [getD_left (by omega), getD_left h]
theorem headBad_app {x : List UInt8} (y : List UInt8) (h : 6 ≤ x.length) : headBad (x ++ y) = headBad x := by
  unfold headBad
  rw [getN_app y (by omega), getN_app y (by omega)]
/-- What lies behind is read as if it had come with it. -/
theorem mb_app : ∀ (n : Nat) (x y : List UInt8), x.length ≤ n → mbGo (x ++ y) = if (mbGo x).2.2 = true then ((mbGo x).1, [], true) else ((mbGo x).1 ++ (mbGo ((mbGo x).2.1 ++ y)).1, (mbGo ((mbGo x).2.1 ++ y)).2) := by
  intro n
  induction n with
  | zero =>
    intro x y h
    rw [mb_short (b := x) (by omega)]
    simp
  | succ n ih =>
    intro x y h
    by_cases h6 : 6 ≤ x.length
    · cases hb : headBad x with
      | true => rw [mb_bad h6 hb, mb_bad (b := x ++ y) (by simp; omega) (by rw [headBad_app y h6]; exact hb)]; simp
      | false =>
        have hb2 : headBad (x ++ y) = false := by rw [headBad_app y h6]; exact hb
        by_cases hw : x.length - 6 < getN x 4
        · rw [mb_waits h6 hb hw]; simp
        · have g0 := getN_app y (i := 0) (x := x) (by omega)
          have g4 := getN_app y (i := 4) (x := x) (by omega)
          have hg2 : 2 ≤ getN x 4 := by
            unfold headBad at hb; have := of_decide_eq_false hb; omega
          have hl : (x.drop (6 + getN x 4)).length ≤ n := by rw [List.length_drop]; omega
          have e0 := mb_step h6 hb hw
          have e1 := mb_step (b := x ++ y) (by simp; omega) hb2 (by rw [g4]; simp; omega)
          have d1 : (x ++ y).drop (6 + getN x 4) = x.drop (6 + getN x 4) ++ y := List.drop_append_of_le_length (by omega)
          have d2 : ((x ++ y).drop 7).take (getN x 4 - 1) = (x.drop 7).take (getN x 4 - 1) := by
            rw [List.drop_append_of_le_length (by omega), List.take_append_of_le_length (by rw [List.length_drop]; omega)]
          have d3 : (x ++ y).getD 6 0 = x.getD 6 0 := getD_left (by omega)
          rw [g0, g4, d1, d2, d3, ih _ y hl] at e1
          rw [e1, e0]
          cases (mbGo (x.drop (6 + getN x 4))).2.2 <;> simp
    · rw [mb_short (b := x) (by omega)]; simp
theorem mb_left : ∀ (n : Nat) (x : List UInt8), x.length ≤ n → (mbGo x).2.1.length ≤ x.length := by
  intro n
  induction n with
  | zero => intro x h; rw [mb_short (b := x) (by omega)]; simp
  | succ n ih =>
    intro x h
    by_cases h6 : 6 ≤ x.length
    · cases hb : headBad x with
      | true => rw [mb_bad h6 hb]; simp
      | false =>
        by_cases hw : x.length - 6 < getN x 4
        · rw [mb_waits h6 hb hw]; simp
        · rw [mb_step h6 hb hw]
          have := ih (x.drop (6 + getN x 4)) (by rw [List.length_drop]; omega)
          rw [List.length_drop] at this
          simp only; omega
    · rw [mb_short (b := x) (by omega)]; simp
theorem mb_many : ∀ (n : Nat) (x : List UInt8), x.length ≤ n → (mbGo x).1.length ≤ x.length := by
  intro n
  induction n with
  | zero => intro x h; rw [mb_short (b := x) (by omega)]; simp
  | succ n ih =>
    intro x h
    by_cases h6 : 6 ≤ x.length
    · cases hb : headBad x with
      | true => rw [mb_bad h6 hb]; simp
      | false =>
        by_cases hw : x.length - 6 < getN x 4
        · rw [mb_waits h6 hb hw]; simp
        · rw [mb_step h6 hb hw]
          have := ih (x.drop (6 + getN x 4)) (by rw [List.length_drop]; omega)
          rw [List.length_drop] at this
          simp only [List.length_cons]; omega
    · rw [mb_short (b := x) (by omega)]; simp
/-- Messages that may go out. -/
def MOk (m : TMsg) : Prop := (0 ≤ m.id ∧ m.id < 65536) ∧ (0 ≤ m.unit ∧ m.unit < 256) ∧ (1 ≤ m.pdu.length ∧ m.pdu.length ≤ 253)
def bytesMs (l : List TMsg) : List UInt8 := (l.map bytesM).flatten
theorem mb_msgs : ∀ (l : List TMsg), (∀ m ∈ l, MOk m) → mbGo (bytesMs l) = (l, [], false)
  | [], _ => mb_short (b := []) (by decide)
  | m :: l, h => by
    have hm := h m (by simp)
    have e : bytesMs (m :: l) = bytesM m ++ bytesMs l := by simp [bytesMs]
    rw [e, mb_bytes hm.1 hm.2.1 hm.2.2, mb_msgs l (fun x hx => h x (by simp [hx]))]
/-- What is left waits: nothing more comes of it. -/
theorem mb_rest : ∀ (n : Nat) (x : List UInt8), x.length ≤ n → mbGo (mbGo x).2.1 = ([], (mbGo x).2.1, false) := by
  intro n
  induction n with
  | zero => intro x h; rw [mb_short (b := x) (by omega)]; exact mb_short (b := x) (by omega)
  | succ n ih =>
    intro x h
    by_cases h6 : 6 ≤ x.length
    · cases hb : headBad x with
      | true => rw [mb_bad h6 hb]; exact mb_short (by decide)
      | false =>
        by_cases hw : x.length - 6 < getN x 4
        · rw [mb_waits h6 hb hw]; exact mb_waits h6 hb hw
        · rw [mb_step h6 hb hw]
          exact ih (x.drop (6 + getN x 4)) (by rw [List.length_drop]; omega)
    · rw [mb_short (b := x) (by omega)]; exact mb_short (b := x) (by omega)
theorem bytesMs_snoc (l : List TMsg) (m : TMsg) : bytesMs (l ++ [m]) = bytesMs l ++ bytesM m := by simp [bytesMs]
/-- Messages come out as they went in: what a round keeps. -/
structure WholeI (w : List TMsg) (g : List TMsg) (q rest : List UInt8) : Prop where
  tells : g ++ (mbGo (q ++ rest)).1 = w
  ends : (mbGo (q ++ rest)).2 = ([], false)
  bound : q.length + rest.length ≤ 2610
  stable : mbGo q = ([], q, false)
theorem WholeI.zero {w : List TMsg} {b : List UInt8} (h : ∀ m ∈ w, MOk m) (hb : b = bytesMs w) (hl : b.length ≤ 2610) : WholeI w [] [] b := by
  subst hb
  refine ⟨?_, ?_, by simpa using hl, mb_short (by decide)⟩
  · rw [List.nil_append, List.nil_append, mb_msgs w h]
  · rw [List.nil_append, mb_msgs w h]
theorem WholeI.put {w g : List TMsg} {q rest : List UInt8} (h : WholeI w g q rest) (n : Nat) :
    WholeI w (g ++ (putV q false (rest.take n)).1) (putV q false (rest.take n)).2.1 (rest.drop n) ∧ (putV q false (rest.take n)).2.2 = false := by
  have e : putV q false (rest.take n) = mbGo (q ++ rest.take n) := by unfold putV; rw [if_neg (by decide)]
  rw [e]
  have a := mb_app _ (q ++ rest.take n) (rest.drop n) (Nat.le_refl _)
  rw [List.append_assoc, List.take_append_drop] at a
  have hc : (mbGo (q ++ rest.take n)).2.2 = false := by
    cases hc : (mbGo (q ++ rest.take n)).2.2 with
    | false => rfl
    | true =>
      rw [hc, if_pos rfl] at a
      have := h.ends
      rw [a] at this
      cases this
  rw [hc, if_neg (by decide)] at a
  refine ⟨⟨?_, ?_, ?_, mb_rest _ _ (Nat.le_refl _)⟩, hc⟩
  · rw [List.append_assoc]
    have := h.tells
    rw [a] at this
    exact this
  · have := h.ends
    rw [a] at this
    exact this
  · have := mb_left _ (q ++ rest.take n) (Nat.le_refl _)
    have hb := h.bound
    rw [List.length_append, List.length_take] at this
    rw [List.length_drop]; omega
theorem WholeI.few {w g : List TMsg} {q rest : List UInt8} (h : WholeI w g q rest) {n : Nat} (hn : w.length ≤ n) : g.length ≤ n := by
  have := congrArg List.length h.tells
  rw [List.length_append] at this
  omega
theorem WholeI.done {w g : List TMsg} {q rest : List UInt8} (h : WholeI w g q rest) (hr : rest = []) : g = w ∧ q = [] := by
  have hq := h.stable
  subst hr
  have h1 := h.tells
  have h2 := h.ends
  rw [List.append_nil, hq] at h1 h2
  simp at h1 h2
  exact ⟨h1, h2⟩
end Go.Proofs.Ytfbmlnajnlekbaa
