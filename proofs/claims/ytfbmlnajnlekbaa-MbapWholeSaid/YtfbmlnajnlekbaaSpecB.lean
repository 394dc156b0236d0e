/- Streams of requests, told plainly. -/
import Derived.Test.YtfbmlnajnlekbaaSpecO
namespace Go.Proofs.Ytfbmlnajnlekbaa
open Go Go.Proofs.Ytfbmlnajnlekbaa.Pv

theorem fin_normal {tab : Tab} {rs : List ResultVar} {k : Nat} {R : PV → Nat → Heap → Prop} {env : Env} {nx : Nat} {H : Heap} (h : FinP tab rs k R .ret env nx H) : FinP tab rs k R .normal env nx H := ⟨by simp, .inr rfl, h.2.2⟩
/-- A message as bytes. -/
def bytesM (m : TMsg) : List UInt8 := if m.pdu.length + 1 < 2 ∨ 254 < m.pdu.length + 1 then [] else put2 m.id ++ put2 0 ++ put2 ((m.pdu.length + 1 : Nat) : Int) ++ [u8I m.unit] ++ m.pdu
theorem bytesM_none {m : TMsg} (h : m.pdu.length + 1 < 2 ∨ 254 < m.pdu.length + 1) : bytesM m = [] := by unfold bytesM; rw [if_pos h]
theorem bytesM_some {m : TMsg} (h : ¬ (m.pdu.length + 1 < 2 ∨ 254 < m.pdu.length + 1)) : bytesM m = put2 m.id ++ put2 0 ++ put2 ((m.pdu.length + 1 : Nat) : Int) ++ [u8I m.unit] ++ m.pdu := by unfold bytesM; rw [if_neg h]
/-- A head that is none. -/
def headBad (b : List UInt8) : Bool := decide (getN b 2 ≠ 0 ∨ getN b 4 < 2 ∨ 254 < getN b 4)
/-- What a stream says of what lies in it: messages, what is left, whether it is closed. -/
def mbGo (b : List UInt8) : List TMsg × List UInt8 × Bool :=
  if 6 ≤ b.length then
    if headBad b = true then ([], [], true)
    else if b.length - 6 < getN b 4 then ([], b, false)
    else if h : 0 < b.length then
      ((⟨(getN b 0 : Int), ((b.getD 6 0).toNat : Int), (b.drop 7).take (getN b 4 - 1)⟩ : TMsg) :: (mbGo (b.drop (6 + getN b 4))).1, (mbGo (b.drop (6 + getN b 4))).2)
    else ([], b, false)
  else ([], b, false)
termination_by b.length
decreasing_by all_goals (rw [List.length_drop]; omega)
theorem mb_short {b : List UInt8} (h : b.length < 6) : mbGo b = ([], b, false) := by rw [mbGo, if_neg (by omega)]
theorem mb_bad {b : List UInt8} (h : 6 ≤ b.length) (h2 : headBad b = true) : mbGo b = ([], [], true) := by rw [mbGo, if_pos h, if_pos h2]
theorem mb_waits {b : List UInt8} (h : 6 ≤ b.length) (h2 : headBad b = false) (h3 : b.length - 6 < getN b 4) : mbGo b = ([], b, false) := by
  rw [mbGo, if_pos h, if_neg (by simp [h2]), if_pos h3]
theorem mb_step {b : List UInt8} (h : 6 ≤ b.length) (h2 : headBad b = false) (h3 : ¬ b.length - 6 < getN b 4) :
    mbGo b = ((⟨(getN b 0 : Int), ((b.getD 6 0).toNat : Int), (b.drop 7).take (getN b 4 - 1)⟩ : TMsg) :: (mbGo (b.drop (6 + getN b 4))).1, (mbGo (b.drop (6 + getN b 4))).2) := by
  rw [mbGo, if_pos h, if_neg (by simp [h2]), if_neg h3, dif_pos (by omega)]
theorem getV_head {q : List UInt8} (h : 6 ≤ q.length) : getV q 0 = (getN q 0 : Int) ∧ getV q 2 = (getN q 2 : Int) ∧ getV q 4 = (getN q 4 : Int) := by
  refine ⟨?_, ?_, ?_⟩ <;> (unfold getV; rw [if_pos (by unfold getOk; apply decide_eq_true; omega)]; rfl)
theorem mb_next {q : List UInt8} {os : List TMsg} {e : UInt8} (h : 6 ≤ q.length) (h2 : headBad q = false) (h3 : ¬ q.length - 6 < getN q 4) (he : q[6]? = some e) {g : List TMsg × List UInt8 × Bool} (hg : g = (os ++ (mbGo q).1, (mbGo q).2)) :
    g = ((os ++ [(⟨getV q 0, ((UInt8.toNat e : Nat) : Int), (q.take (Int.toNat (6 + getV q 4))).drop 7⟩ : TMsg)]) ++ (mbGo (q.drop (0 + Int.toNat (6 + getV q 4)))).1, (mbGo (q.drop (0 + Int.toNat (6 + getV q 4)))).2) := by
  have hv := getV_head h
  have hn : Int.toNat (6 + getV q 4) = 6 + getN q 4 := by omega
  have hb : 2 ≤ getN q 4 := by
    unfold headBad at h2
    have := of_decide_eq_false h2
    omega
  have hd : (q.take (6 + getN q 4)).drop 7 = (q.drop 7).take (getN q 4 - 1) := by
    rw [List.drop_take]; congr 1; omega
  have hx : q.getD 6 0 = e := by rw [List.getD_eq_getElem?_getD, he]; rfl
  rw [hg, mb_step h h2 h3, hn, Nat.zero_add, hd, hv.1, hx]
  simp
def putV (b : List UInt8) (cl : Bool) (x : List UInt8) : List TMsg × List UInt8 × Bool := if cl = true then ([], b, true) else mbGo (b ++ x)
/-- A message comes out as it went in. -/
theorem mb_bytes {m : TMsg} (hid : 0 ≤ m.id ∧ m.id < 65536) (hu : 0 ≤ m.unit ∧ m.unit < 256) (hp : 1 ≤ m.pdu.length ∧ m.pdu.length ≤ 253) (r : List UInt8) : mbGo (bytesM m ++ r) = (m :: (mbGo r).1, (mbGo r).2) := by
  obtain ⟨q, hq⟩ : ∃ q, q = bytesM m ++ r := ⟨_, rfl⟩
  have hq2 : q = u8I (m.id / 2 ^ 8) :: u8I m.id :: u8I (0 / 2 ^ 8) :: u8I 0 :: u8I (((m.pdu.length + 1 : Nat) : Int) / 2 ^ 8) :: u8I ((m.pdu.length + 1 : Nat) : Int) :: u8I m.unit :: (m.pdu ++ r) := by
    rw [hq, bytesM_some (by omega)]; simp [put2]
  have g0 : getN q 0 = m.id.toNat := by
    unfold getN; rw [hq2]; simp only [List.getD_cons_zero, List.getD_cons_succ, u8I_lt]; omega
  have g2 : getN q 2 = 0 := by
    unfold getN; rw [hq2]; simp only [List.getD_cons_zero, List.getD_cons_succ, u8I_lt]; omega
  have g4 : getN q 4 = m.pdu.length + 1 := by
    unfold getN; rw [hq2]; simp only [List.getD_cons_zero, List.getD_cons_succ, u8I_lt]; omega
  have hl : q.length = 7 + m.pdu.length + r.length := by rw [hq2]; simp; omega
  have g6 : (q.getD 6 0).toNat = m.unit.toNat := by
    rw [hq2]; simp only [List.getD_cons_zero, List.getD_cons_succ, u8I_lt]; omega
  have hd : q.drop 7 = m.pdu ++ r := by rw [hq2]; rfl
  have hr : q.drop (6 + getN q 4) = r := by
    have : 6 + getN q 4 = 7 + m.pdu.length := by omega
    rw [this, ← List.drop_drop, hd, List.drop_left]
  have hk : headBad q = false := by unfold headBad; apply decide_eq_false; omega
  rw [← hq, mb_step (by omega) hk (by omega), hr, hd, g0, g4, g6]
  have e : (m.pdu ++ r).take (m.pdu.length + 1 - 1) = m.pdu := by rw [Nat.add_sub_cancel, List.take_left]
  rw [e, Int.toNat_of_nonneg hid.1, Int.toNat_of_nonneg hu.1]
/-! ### The known run -/
def kB : List UInt8 := [0, 2, 0, 0, 0, 3, 17, 3, 0]
def kY : List TMsg := [⟨2, 17, [3, 0]⟩]
theorem kb : bytesM ⟨65538, 17, [3, 0]⟩ = kB := by decide +kernel
theorem kgo : mbGo kB = (kY, [], false) := by
  rw [mb_step (by decide) (by decide +kernel) (by decide +kernel)]
  have h : kB.drop (6 + getN kB 4) = [] := by decide +kernel
  rw [h, mb_short (by decide)]
  have h2 : (⟨(getN kB 0 : Int), ((kB.getD 6 0).toNat : Int), (kB.drop 7).take (getN kB 4 - 1)⟩ : TMsg) = ⟨2, 17, [3, 0]⟩ := by
    have a1 : getN kB 0 = 2 := by decide +kernel
    have a2 : (kB.getD 6 0).toNat = 17 := by decide +kernel
    have a3 : (kB.drop 7).take (getN kB 4 - 1) = [3, 0] := by decide +kernel
    rw [a1, a2, a3]; rfl
  rw [h2]; rfl
theorem kp1 : putV [] false (kB.take (min kB.length 5)) = ([], [0, 2, 0, 0, 0], false) := by
  unfold putV; rw [if_neg (by decide)]; exact mb_short (by decide)
theorem kp2 : putV [0, 2, 0, 0, 0] false (kB.drop (min kB.length 5)) = (kY, [], false) := by
  unfold putV; rw [if_neg (by decide)]; exact kgo
theorem kp3 : putV [] false [0, 0, 0, 1, 0, 2] = ([], [], true) := by
  unfold putV; rw [if_neg (by decide)]; exact mb_bad (by decide) (by decide +kernel)
theorem kp4 (x : List UInt8) : putV [] true x = ([], [], true) := by unfold putV; rw [if_pos rfl]
theorem kp5 : putV [] false kB = (kY, [], false) := by unfold putV; rw [if_neg (by decide)]; exact kgo
theorem kp6 : putV [] false [0, 1, 0, 0, 0, 255] = ([], [], true) := by
  unfold putV; rw [if_neg (by decide)]; exact mb_bad (by decide) (by decide +kernel)
theorem bytesM_le (m : TMsg) : (bytesM m).length ≤ 261 := by
  unfold bytesM; split <;> simp; omega
theorem put_whole {m : TMsg} (hid : 0 ≤ m.id ∧ m.id < 65536) (hu : 0 ≤ m.unit ∧ m.unit < 256) (hp : 1 ≤ m.pdu.length ∧ m.pdu.length ≤ 253) : putV [] false (bytesM m) = ([m], [], false) := by
  unfold putV; rw [if_neg (by decide)]
  have := mb_bytes hid hu hp []
  rw [List.append_nil, mb_short (b := []) (by decide)] at this
  exact this
end Go.Proofs.Ytfbmlnajnlekbaa
