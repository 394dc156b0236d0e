/- Small words for what is handed over. -/
import Derived.Test.YteedhlgdbankiaaPvAC
set_option linter.unusedVariables false
set_option linter.unusedSimpArgs false
namespace Go.Proofs.Yteedhlgdbankiaa.Pv
open Go

def HandP (H : Heap) : List Nat → List Obj → Prop
  | n :: ns, o :: os => look H n = some o ∧ HandP H ns os
  | [], [] => True
  | _, _ => False
theorem HandP.get {H : Heap} : ∀ {ns : List Nat} {os : List Obj}, HandP H ns os → os.length = ns.length ∧ ∀ (i : Nat) n, ns[i]? = some n → ∃ o, os[i]? = some o ∧ look H n = some o
  | [], [], _ => ⟨rfl, fun i n h => by simp at h⟩
  | [], _ :: _, h => h.elim
  | _ :: _, [], h => h.elim
  | n :: ns, o :: os, h => by
    obtain ⟨h1, h2⟩ := h
    obtain ⟨k1, k2⟩ := HandP.get h2
    refine ⟨by simp [k1], fun i m hm => ?_⟩
    cases i with
    | zero => simp at hm; subst hm; exact ⟨o, rfl, h1⟩
    | succ i => simpa using k2 i m (by simpa using hm)
theorem handed_of {H : Heap} {ns : List Nat} {os : List Obj} (hn : ns.Nodup) (h : HandP H ns os) : Handed H ns os := ⟨h.get.1, h.get.2, hn⟩
def distB : Heap → Bool
  | [] => true
  | p :: t => (t.all fun q => !(q.1 == p.1)) && distB t
theorem dist_of {H : Heap} (h : distB H = true) : Dist H := by
  induction H with
  | nil => intro n o hm; cases hm
  | cons p t ih =>
    simp only [distB, Bool.and_eq_true] at h
    intro n o hm
    rcases List.mem_cons.1 hm with e | e
    · rw [← e]; exact look_cons_same _ _ _
    · have : p.1 ≠ n := by
        intro q
        have := List.all_eq_true.1 h.1 _ e
        simp [q] at this
      obtain ⟨k, x⟩ := p
      rw [look_cons_ne _ _ this]
      exact ih h.2 n o e
section
variable {P : Program} {c : Ctx} {nx : Nat} {env : Env} {H : Heap} {Q : Post} {ops : Array Oper} {rest : List Oper} {code : Code} {α : Type} {f : α → FV} {s n lo sz : Nat} {hi : Option Nat} {wr : Bool} {l l2 : List α}
theorem frz_M (hb : look H n = some (.buf wr sz (l.map f))) (hv : view lo hi l = l2) : frz H (.ref n lo hi) = some (.sl sz false (l2.map f), hput H n (oB false sz f l)) := by
  simp only [frz, frz1, hb]
  rw [view_map, hv]
theorem r_frzM (he : look env s = some (.ref n lo hi)) (hb : look H n = some (.buf wr sz (l.map f))) (hv : view lo hi l = l2) (h : R P c ops rest ((s, pS sz false f l2) :: env) nx (hput H n (oB false sz f l)) Q) : R P c ops rest env nx H Q := r_frz he (frz_M hb hv) h
theorem w_frzM (he : look env s = some (.ref n lo hi)) (hb : look H n = some (.buf wr sz (l.map f))) (hv : view lo hi l = l2) (h : W P c code ((s, pS sz false f l2) :: env) nx (hput H n (oB false sz f l)) Q) : W P c code env nx H Q := w_frz he (frz_M hb hv) h
theorem view_lo {α : Type} {l : List α} {lo : Nat} : view lo none l = l.drop lo := rfl
theorem view_0 {α : Type} {l : List α} : view 0 none l = l := by simp [view]
theorem view_hi {α : Type} {l : List α} {hi : Nat} : view 0 (some hi) l = l.take hi := by simp [view]
theorem view_lh {α : Type} {l : List α} {lo hi : Nat} : view lo (some hi) l = (l.take hi).drop lo := rfl
end
section
variable {P : Program} {tab : Tab} {nx : Nat} {env : Env} {H : Heap} {K : PV → Nat → Heap → Prop} {t u : Nat} {x : Operand}
/-- A shift by a given count, of any kind. -/
theorem s_shrK {y : Operand} (n : Nat) {k k2 : IntKind} {a : Int} (h1 : ev env x = some (.f (.v (.int k a)))) (h2 : ev env y = some (.f (.v (.int k2 (n : Nat))))) (hn : n < k.bits) (h : K (pK k (a / 2 ^ n)) nx H) : stepOp P tab env nx H K (.binOp .shr t x y u) :=
  s_shr h1 h2 (by omega) (by rw [Int.toNat_natCast, Nat.min_eq_left (by omega), fdiv_pow]; exact h)
theorem s_ptrnot0 {i : TI} {e : Nat} (ht : tab t = some i) (hk : i.kd = .ptr e) (h1 : ev env x = some (.f (.v (.pointer none)))) (h : K (.f (.v (.bool false))) nx H) : stepOp P tab env nx H K (.binOp .neq t x (.const (.pointer none)) u) :=
  s_bin h1 rfl (by rw [ht]; simp only [Option.elim, hk]; exact h)
end

section
variable {P : Program} {tab : Tab} {ops : Array Oper} {B : List (List Nat)} {rest : List Oper} {acc : List Cert} {env : Env} {nx : Nat} {H : Heap} {C : List Cert → Env → Nat → Heap → Prop} {dst : Option Nat} {op : Op} {t : Nat} {p : String} {a : Array Edge}
/-- An operation that reads, or turns, named things: all told as it stands. -/
theorem x_run {g : Option (Nat × Bool)} {pv : PV} {nx' : Nat} {rN tN : List Nat} (E0 : Env) (b0 : List Nat) (hR hT H1 hN Hn : Heap) (hE : cutE ops ⟨dst, op, t, p, a, g⟩ env = E0) (hb : B.getD acc.length [] = b0) (hr : rdN ⟨dst, op, t, p, a, g⟩ env = rN) (ht : tchN ⟨dst, op, t, p, a, g⟩ env = tN) (h1 : sel H rN = hR) (h2 : sel H tN = hT)
    (h : stepOp P tab E0 nx (hR ++ hT) (fun a b d => a = pv ∧ b = nx' ∧ d = H1) op) (hle : Nat.ble nx nx' = true) (hs : sameH H1 hR) (e1 : drops H1 (hR.map Prod.fst) = hN) (e2 : hN ++ drops H (hT.map Prod.fst) = Hn)
    (k : wpd P tab ops B rest (⟨⟨dst, op, t, p, a, g⟩, some pv, E0, hR, hT, hN, nx, nx', b0⟩ :: acc) (putE dst pv env) nx' Hn C) :
    runD P tab ops B ⟨dst, op, t, p, a, g⟩ rest acc env nx H C := by
  subst hr; subst ht; subst h1; subst h2; subst e1; subst e2; subst hE; subst hb
  exact ⟨pv, nx', H1, h, Nat.le_of_ble_eq_true hle, hs, k⟩
/-- An operation that neither reads nor turns a named thing. -/
theorem x_run0 {g : Option (Nat × Bool)} {pv : PV} (E0 : Env) (b0 : List Nat) (hE : cutE ops ⟨dst, op, t, p, a, g⟩ env = E0) (hb : B.getD acc.length [] = b0) (hr : rdN ⟨dst, op, t, p, a, g⟩ env = []) (ht : tchN ⟨dst, op, t, p, a, g⟩ env = [])
    (h : stepOp P tab E0 nx [] (fun a b d => a = pv ∧ b = nx ∧ d = []) op)
    (k : wpd P tab ops B rest (⟨⟨dst, op, t, p, a, g⟩, some pv, E0, [], [], [], nx, nx, b0⟩ :: acc) (putE dst pv env) nx H C) : runD P tab ops B ⟨dst, op, t, p, a, g⟩ rest acc env nx H C := by
  subst hE; subst hb
  exact d_run0 hr ht h k
theorem x_if {j d : Nat} {want b : Bool} (E0 : Env) (b0 : List Nat) (hE : cutE ops ⟨dst, op, t, p, a, some (j, want)⟩ env = E0) (hB : B.getD acc.length [] = b0) (hj : (ops[j]?).bind (·.dst) = some d) (hb : look E0 d = some (.f (.v (.bool b))))
    (h1 : b = want → runD P tab ops B ⟨dst, op, t, p, a, some (j, want)⟩ rest acc env nx H C)
    (h2 : b = (!want) → wpd P tab ops B rest (⟨⟨dst, op, t, p, a, some (j, want)⟩, some undefP, E0, [], [], [], nx, nx, b0⟩ :: acc) (dropE dst env) nx H C) :
    wpd P tab ops B (⟨dst, op, t, p, a, some (j, want)⟩ :: rest) acc env nx H C := by
  subst hE; subst hB
  exact d_if hj hb h1 h2
theorem x_undef {j d : Nat} {want : Bool} (E0 : Env) (b0 : List Nat) (hE : cutE ops ⟨dst, op, t, p, a, some (j, want)⟩ env = E0) (hB : B.getD acc.length [] = b0) (hj : (ops[j]?).bind (·.dst) = some d) (hb : look E0 d = some undefP)
    (h : wpd P tab ops B rest (⟨⟨dst, op, t, p, a, some (j, want)⟩, some undefP, E0, [], [], [], nx, nx, b0⟩ :: acc) (dropE dst env) nx H C) :
    wpd P tab ops B (⟨dst, op, t, p, a, some (j, want)⟩ :: rest) acc env nx H C := by
  subst hE; subst hB
  exact d_undef hj hb h
end
end Go.Proofs.Yteedhlgdbankiaa.Pv
