/- Frames: what the laws say of them. -/
import Derived.Test.YtmcgjmpcfiefgaaSpecF
namespace Go.Proofs.Ytmcgjmpcfiefgaa
open Go Go.Proofs.Ytmcgjmpcfiefgaa.Pv

theorem frame_of {a : Int} {p : List UInt8} (ha : 1 ≤ a ∧ a ≤ 247) (hp : 1 ≤ p.length ∧ p.length ≤ 253) : frameE a p = 0 ∧ frameV a p = sealL (u8I a :: p) := frameE_ok (by omega) (by omega) (by omega)
theorem read_frame {a : Int} {p : List UInt8} (ha : 1 ≤ a ∧ a ≤ 247) (hp : 1 ≤ p.length ∧ p.length ≤ 253) : readE (sealL (u8I a :: p)) = 0 ∧ readA (sealL (u8I a :: p)) = a ∧ readP (sealL (u8I a :: p)) = p := by
  obtain ⟨h1, h2⟩ := open_sealed (u8I a :: p)
  have hl : (sealL (u8I a :: p)).length = p.length + 3 := by rw [sealL_length]; simp
  have hx : (openL (sealL (u8I a :: p)))[0]? = some (u8I a) := by rw [h2]; rfl
  have hn : (u8I a).toNat = a.toNat := by rw [u8I_lt]; omega
  obtain ⟨e1, e2, e3⟩ := readE_ok (b := sealL (u8I a :: p)) (by omega) (by omega) h1 hx (by omega)
  refine ⟨e1, by rw [e2, hn]; omega, by rw [e3, h2]; rfl⟩
theorem readE_bad {z : List UInt8} (h : 4 ≤ z.length ∧ z.length ≤ 256) (ho : openOk z = false) : readE z = 14 := readE_sum (by omega) (by omega) ho
/-- A burst of bits in a frame is seen. -/
theorem burst_read {a : Int} {p z : List UInt8} {k : Nat} {t : UInt16} (ha : 1 ≤ a ∧ a ≤ 247) (hp : 1 ≤ p.length ∧ p.length ≤ 253) (h : Turned (sealL (u8I a :: p)) z k t 16) (hk : k ≤ 8 * (sealL (u8I a :: p)).length) :
    readE z = 0 ↔ z = sealL (u8I a :: p) := by
  constructor
  · intro hz
    have hl : z.length = p.length + 3 := by rw [h.1, sealL_length]; simp
    have := burst_open h hk
    cases ho : openOk z with
    | false => rw [readE_bad (by omega) ho] at hz; cases hz
    | true => rw [ho] at this; exact of_decide_eq_true this.symm
  · intro e; rw [e]; exact (read_frame ha hp).1
/-- A byte that is turned. -/
theorem turned_byte {x : List UInt8} {k : Nat} {c m : UInt8} (hc : x[k]? = some c) : Turned x (x.set k (c ^^^ m)) (8 * k) m.toUInt16 16 := by
  have hl := (List.getElem?_eq_some_iff.1 hc).1
  refine ⟨by simp, fun p hp => ?_⟩
  have hb : ∀ j, (m.toUInt16 >>> UInt16.ofNat j &&& 1 = 1) ↔ (j % 16 < 8 ∧ m.toNat.testBit (j % 16) = true) := by
    intro j
    have hm := m.toNat_lt
    have e1 : (m.toUInt16 >>> UInt16.ofNat j &&& 1).toNat = m.toNat / 2 ^ (j % 16) % 2 := by
      rw [and1, UInt16.toNat_shiftRight, UInt8.toNat_toUInt16, Nat.shiftRight_eq_div_pow, UInt16.toNat_ofNat']
      congr 3
      omega
    have e2 : m.toNat.testBit (j % 16) = decide (m.toNat / 2 ^ (j % 16) % 2 = 1) := by
      rw [Nat.testBit_eq_decide_div_mod_eq]
    constructor
    · intro h
      have h2 := congrArg UInt16.toNat h
      rw [e1] at h2
      have h3 : m.toNat / 2 ^ (j % 16) % 2 = 1 := h2
      refine ⟨Classical.byContradiction fun hn => ?_, by rw [e2]; exact decide_eq_true h3⟩
      have hp : 2 ^ 8 ≤ 2 ^ (j % 16) := Nat.pow_le_pow_right (by decide) (by omega)
      have : m.toNat / 2 ^ (j % 16) = 0 := Nat.div_eq_of_lt (by omega)
      rw [this] at h3; cases h3
    · rintro ⟨_, h⟩
      rw [e2] at h
      apply UInt16.toNat_inj.1
      rw [e1]; exact of_decide_eq_true h
  unfold bitAt flipQ
  by_cases e : p / 8 = k
  · rw [List.getD_eq_getElem?_getD, List.getD_eq_getElem?_getD, e, List.getElem?_set_self hl, hc]
    simp only [Option.getD_some]
    rw [UInt8.toNat_xor, Nat.testBit_xor]
    congr 1
    have e1 : decide (8 * k ≤ p ∧ p < 8 * k + 16) = true := decide_eq_true (by omega)
    have e2 : p - 8 * k = p % 8 := by omega
    rw [e1, Bool.true_and, e2]
    have hb2 := hb (p % 8)
    have e3 : p % 8 % 16 = p % 8 := by omega
    rw [e3] at hb2
    cases ht : m.toNat.testBit (p % 8) with
    | true => exact (decide_eq_true (hb2.2 ⟨by omega, ht⟩)).symm
    | false => exact (decide_eq_false (fun h => by have := (hb2.1 h).2; rw [ht] at this; cases this)).symm
  · rw [List.getD_eq_getElem?_getD, List.getD_eq_getElem?_getD, List.getElem?_set_ne (fun h => e h.symm)]
    by_cases hw : 8 * k ≤ p ∧ p < 8 * k + 16
    · have hn : ¬ (m.toUInt16 >>> UInt16.ofNat (p - 8 * k) &&& 1 = 1) := by
        intro h
        have := ((hb _).1 h).1
        omega
      simp [hn]
    · simp [hw]
theorem byte_read {a : Int} {p : List UInt8} {k : Nat} {c m : UInt8} (_ : 1 ≤ a ∧ a ≤ 247) (hp : 1 ≤ p.length ∧ p.length ≤ 253) (hc : (sealL (u8I a :: p))[k]? = some c) (hm : m ≠ 0) : readE ((sealL (u8I a :: p)).set k (c ^^^ m)) = 14 := by
  have ht := turned_byte (m := m) hc
  have hl := (List.getElem?_eq_some_iff.1 hc).1
  have ho := burst_open ht (by omega)
  have hne : ¬ (sealL (u8I a :: p)).set k (c ^^^ m) = sealL (u8I a :: p) := by
    intro e
    have h1 := congrArg (fun z => z[k]?) e
    simp only [List.getElem?_set_self hl, hc, Option.some.injEq] at h1
    apply hm
    have h2 := congrArg (fun z => c ^^^ z) h1
    simpa [← UInt8.xor_assoc] using h2
  rw [decide_eq_false hne] at ho
  exact readE_bad (by rw [List.length_set, sealL_length]; simp; omega) ho
theorem or1_ne (t : UInt8) : t ||| 1 ≠ 0 := by
  have : ∀ n : Fin 256, (UInt8.ofNat n.val ||| 1) ≠ 0 := by decide +kernel
  have := this ⟨t.toNat, t.toNat_lt⟩
  simp only [UInt8.ofNat_toNat] at this; exact this
theorem one_or_two (t : UInt8) : ((UInt8.toNat (1 + (t &&& 1)) : Nat) : Int) = 1 ∨ ((UInt8.toNat (1 + (t &&& 1)) : Nat) : Int) = 2 := by
  have h : ∀ n : Fin 256, UInt8.toNat (1 + (UInt8.ofNat n.val &&& 1)) = 1 ∨ UInt8.toNat (1 + (UInt8.ofNat n.val &&& 1)) = 2 := by decide +kernel
  have := h ⟨t.toNat, t.toNat_lt⟩
  simp only [UInt8.ofNat_toNat] at this
  omega
theorem and7 (x : UInt8) : UInt8.toNat (x &&& 7) ≤ 7 := by rw [UInt8.toNat_and]; exact Nat.and_le_right
theorem frameV_len (a : Int) (p : List UInt8) : (frameV a p).length ≤ p.length + 3 := by
  unfold frameV; split
  · rw [sealL_length]; simp
  · simp
/-! ### A gap within -/
theorem spT_app {ts ts' : List Int} {b b' : List UInt8} : ∀ {i : Nat}, i ≤ ts.length → i ≤ b.length → spT (ts ++ ts') (b ++ b') i = spT ts b i
  | 0, _, _ => rfl
  | i + 1, h1, h2 => by
    have e1 : (ts ++ ts').getD i 0 = ts.getD i 0 := by rw [List.getD_eq_getElem?_getD, List.getD_eq_getElem?_getD, List.getElem?_append_left (by omega)]
    have e2 : (b ++ b').getD i 0 = b.getD i 0 := by rw [List.getD_eq_getElem?_getD, List.getD_eq_getElem?_getD, List.getElem?_append_left (by omega)]
    simp only [spT, e1, e2]
    rw [spT_app (by omega) (by omega)]
theorem spT_snoc {ts : List Int} {b : List UInt8} (h : ts.length = b.length) (t : Int) (x : UInt8) : spT (ts ++ [t]) (b ++ [x]) (b ++ [x]).length = spPut x (spGap b.length t (spT ts b b.length)) := by
  rw [List.length_append, List.length_singleton]
  rw [spT_next (t := t) (x := x) (by rw [List.getElem?_append_right (by omega)]; simp [h]) (by rw [List.getElem?_append_right (by omega)]; simp), spT_app (by omega) (by omega)]
def gapsT (k : Nat) (d : Int) (i : Nat) : List Int := (List.range i).map fun (j : Nat) => if k ≤ j ∧ 0 < k then (j : Int) + d else (j : Int)
@[simp] theorem gapsT_length (k : Nat) (d : Int) (i : Nat) : (gapsT k d i).length = i := by simp [gapsT]
theorem gapsT_get {k : Nat} {d : Int} {n i : Nat} (h : i < n) : (gapsT k d n).getD i 0 = if k ≤ i ∧ 0 < k then (i : Int) + d else (i : Int) := by
  rw [List.getD_eq_getElem?_getD]; simp [gapsT, h]
theorem gaps_spT {k : Nat} {d : Int} (hd : d = 1 ∨ d = 2) (f : List UInt8) : ∀ i, i ≤ f.length → 0 < i → spT (gapsT k d f.length) f i = ([], f.take i, decide (0 < k ∧ k < i), if k ≤ i - 1 ∧ 0 < k then ((i - 1 : Nat) : Int) + d else ((i - 1 : Nat) : Int))
  | 0, _, h => by omega
  | 1, h, _ => by
    simp only [spT]
    rw [gapsT_get (by omega), spGap_0]
    unfold spPut
    have e : f.take 1 = [f.getD 0 0] := by cases f with | nil => simp at h | cons x l => simp
    have e2 : decide (0 < k ∧ k < 1) = false := decide_eq_false (by omega)
    simp only [e, e2, List.nil_append]
  | i + 2, h, _ => by
    rw [spT, gaps_spT hd f (i + 1) (by omega) (by omega), gapsT_get (by omega)]
    have e : f.take (i + 2) = f.take (i + 1) ++ [f.getD (i + 1) 0] := by
      rw [List.take_add_one, List.getD_eq_getElem?_getD, List.getElem?_eq_getElem (by omega)]; rfl
    have hs1 : i + 1 - 1 = i := rfl
    have hs2 : i + 2 - 1 = i + 1 := rfl
    rw [e, hs1, hs2]
    by_cases hk : 0 < k ∧ k = i + 1
    · have a1 : (if k ≤ i + 1 ∧ 0 < k then ((i + 1 : Nat) : Int) + d else ((i + 1 : Nat) : Int)) = ((i + 1 : Nat) : Int) + d := if_pos (by omega)
      have a2 : (if k ≤ i ∧ 0 < k then (i : Int) + d else (i : Int)) = (i : Int) := if_neg (by omega)
      rw [a1, a2, spGap_2 (by omega) (by simp only; omega) (by simp only; omega)]
      have a3 : decide (0 < k ∧ k < i + 2) = true := decide_eq_true (by omega)
      rw [a3]
      unfold spPut
      simp only
      congr 3; omega
    · have a1 : ∃ u v : Int, u = (if k ≤ i + 1 ∧ 0 < k then ((i + 1 : Nat) : Int) + d else ((i + 1 : Nat) : Int)) ∧ v = (if k ≤ i ∧ 0 < k then (i : Int) + d else (i : Int)) ∧ u - v = 1 := by
        refine ⟨_, _, rfl, rfl, ?_⟩
        split <;> split <;> omega
      obtain ⟨u, v, hu, hv, huv⟩ := a1
      rw [← hu, ← hv, spGap_1 (by omega) (by simp only; omega) (by simp only; omega)]
      have a3 : decide (0 < k ∧ k < i + 2) = decide (0 < k ∧ k < i + 1) := decide_eq_decide.2 (by omega)
      rw [a3]
      unfold spPut
      simp only
      congr 3; omega
theorem gaps_split {k : Nat} {d : Int} (hd : d = 1 ∨ d = 2) {f : List UInt8} (hf : 0 < f.length) (hk : k < f.length) : ((splitV (gapsT k d f.length) f).length : Int) = 1 - min (k : Int) 1 := by
  unfold splitV
  rw [gapsT_length, Nat.min_self, gaps_spT hd f _ (Nat.le_refl _) hf, List.take_length]
  unfold spEnd
  simp only
  have hne : f ≠ [] := List.ne_nil_of_length_pos hf
  by_cases h0 : 0 < k
  · rw [spE_no (.inr (decide_eq_true ⟨h0, hk⟩))]; simp; omega
  · rw [spE_yes hne (decide_eq_false (by omega))]; simp; omega
theorem gapsT_bound {k : Nat} {d : Int} (hd : d = 1 ∨ d = 2) {n : Nat} {t : Int} (h : t ∈ gapsT k d n) : 0 ≤ t ∧ t ≤ n + 2 := by
  unfold gapsT at h
  obtain ⟨j, hj, rfl⟩ := List.mem_map.1 h
  have := List.mem_range.1 hj
  split <;> omega
theorem gapsT_snoc (k : Nat) (d : Int) (i : Nat) : gapsT k d (i + 1) = gapsT k d i ++ [if k ≤ i ∧ 0 < k then (i : Int) + d else (i : Int)] := by simp [gapsT, List.range_succ]
/-! ### One frame behind the other -/
structure BackI (ts : List Int) (al : List UInt8) (ws : List (List UInt8)) (now gap : Int) : Prop where
  len : ts.length = al.length
  says : ∃ os cur la, spT ts al al.length = (os, cur, false, la) ∧ spE os cur false = ws ∧ (al.length = 0 ∨ la + gap ≤ now)
theorem BackI.zero : BackI [] [] [] 0 1 := ⟨rfl, [], [], 0, rfl, rfl, .inl rfl⟩
structure BackJ (ts : List Int) (al : List UInt8) (ws : List (List UInt8)) (f : List UInt8) (z : Nat) (now : Int) : Prop where
  len : ts.length = al.length
  says : z = 0 ∧ BackI ts al ws now 5 ∨ 0 < z ∧ spT ts al al.length = (ws, f.take z, false, now - 1) ∧ 0 < al.length
theorem BackI.to {ts : List Int} {al : List UInt8} {ws : List (List UInt8)} {now : Int} (h : BackI ts al ws now 1) (f : List UInt8) : BackJ ts al ws f 0 (now + 4) :=
  ⟨h.len, .inl ⟨rfl, h.len, by obtain ⟨os, cur, la, a, b, c⟩ := h.says; exact ⟨os, cur, la, a, b, by omega⟩⟩⟩
theorem BackJ.next {ts : List Int} {al : List UInt8} {ws : List (List UInt8)} {f : List UInt8} {z : Nat} {now : Int} {x : UInt8} (h : BackJ ts al ws f z now) (hx : f[z]? = some x) : BackJ (ts ++ [now]) (al ++ [x]) ws f (z + 1) (now + 1) := by
  refine ⟨by simp [h.len], .inr ⟨by omega, ?_, by simp⟩⟩
  rw [spT_snoc h.len]
  have e : f.take (z + 1) = f.take z ++ [x] := by rw [List.take_add_one, hx]; rfl
  have e2 : now + 1 - 1 = now := by omega
  rw [e2]
  rcases h.says with ⟨rfl, hi⟩ | ⟨hz, hs, hl⟩
  · obtain ⟨os, cur, la, a, b, c⟩ := hi.says
    rw [a, e]
    by_cases h0 : al.length = 0
    · rw [h0, spGap_0]
      have hal : al = [] := List.eq_nil_of_length_eq_zero h0
      rw [h0] at a
      simp only [spT, Prod.mk.injEq] at a
      obtain ⟨rfl, rfl, _, _⟩ := a
      rw [← b]; rfl
    · rw [spGap_4 (by omega) (by simp only; omega)]
      unfold spPut spEnd
      simp only [List.take_zero]
      rw [b]
      congr 3; omega
  · rw [hs, e, spGap_1 (by omega) (by simp only; omega) (by simp only; omega)]
    unfold spPut
    simp only
    congr 3; omega
theorem BackJ.done {ts : List Int} {al : List UInt8} {ws : List (List UInt8)} {f : List UInt8} {now : Int} (h : BackJ ts al ws f f.length now) (hf : 0 < f.length) : BackI ts al (ws ++ [f]) now 1 := by
  rcases h.says with ⟨h0, _⟩ | ⟨_, hs, _⟩
  · omega
  · refine ⟨h.len, ws, f, now - 1, ?_, ?_, .inr (by omega)⟩
    · rw [hs, List.take_length]
    · exact spE_yes (List.ne_nil_of_length_pos hf) rfl
theorem BackI.split {ts : List Int} {al : List UInt8} {ws : List (List UInt8)} {now g : Int} (h : BackI ts al ws now g) : splitV ts al = ws := by
  obtain ⟨os, cur, la, a, b, _⟩ := h.says
  unfold splitV
  rw [h.len, Nat.min_self, a]
  exact b
end Go.Proofs.Ytmcgjmpcfiefgaa
