/- What a queue's functions compute, told plainly. -/
import Derived.Test.YteedhlgdbankiaaSpecA
namespace Go.Proofs.Yteedhlgdbankiaa
open Go Go.Proofs.Yteedhlgdbankiaa.Pv

def headM (l : List TMsg) : TMsg := l.headD ⟨0, 0, []⟩
theorem headM_of {l : List TMsg} {e : TMsg} (h : l[0]? = some e) : headM l = e := by cases l <;> simp_all [headM]
def mKey (m : TMsg) : Int × List UInt8 := (m.id, m.pdu)
def aKey (a : TAsk) : Int × List UInt8 := (a.id, a.pdu)
def qL (l : List TMsg) (k : Int) (m : TMsg) : List TMsg := if (l.length : Int) < k then l ++ [m] else l
def qR (l : List TMsg) (k r : Int) : Int := if (l.length : Int) < k then r else r + 1
def Small (l : List TMsg) : Prop := ∀ m ∈ l, m.pdu.length ≤ 140737488351232
abbrev Fine (l : List TMsg) : Prop := ∀ m ∈ l, m.pdu.length ≤ 140737488351232
/-- A play's state: what waits, told twice. -/
structure PlayI (k : Int) (i : Nat) (ms : List TMsg) (rf : Int) (ws : List TAsk) (wl rg : Nat) : Prop where
  same : ms.map mKey = (ws.drop wl).map aKey
  room : (ms.length : Int) ≤ k
  fine : Fine ms
  refd : rf = rg
  rle : rg ≤ i
  wle : wl ≤ ws.length
  wsl : ws.length ≤ i
theorem PlayI.len {k : Int} {i : Nat} {ms : List TMsg} {rf : Int} {ws : List TAsk} {wl rg : Nat} (h : PlayI k i ms rf ws wl rg) : ms.length = ws.length - wl := by
  have := congrArg List.length h.same
  simpa using this
theorem PlayI.up {k : Int} {i : Nat} {ms : List TMsg} {rf : Int} {ws : List TAsk} {wl rg : Nat} (h : PlayI k i ms rf ws wl rg) : PlayI k (i + 1) ms rf ws wl rg := ⟨h.same, h.room, h.fine, h.refd, by have := h.rle; omega, h.wle, by have := h.wsl; omega⟩
theorem PlayI.nil {k : Int} (hk : 0 ≤ k) {i : Nat} : PlayI k i [] 0 [] 0 0 := ⟨rfl, by simpa using hk, (by intro m hm; cases hm), rfl, by omega, by simp, by simp⟩
theorem PlayI.clear {k : Int} {i : Nat} {ms : List TMsg} {rf : Int} {ws : List TAsk} {wl rg : Nat} (h : PlayI k i ms rf ws wl rg) : PlayI k i [] rf [] 0 rg := ⟨rfl, by have := h.room; simp; omega, (by intro m hm; cases hm), h.refd, h.rle, by simp, by simp⟩
theorem PlayI.take {k : Int} {i : Nat} {ms : List TMsg} {rf : Int} {ws : List TAsk} {wl rg : Nat} (h : PlayI k i ms rf ws wl rg) (hp : 0 < ms.length) : PlayI k i ms.tail rf ws (wl + 1) rg := by
  have hl := h.len
  refine ⟨?_, by have := h.room; simp; omega, fun m hm => h.fine m (List.mem_of_mem_tail hm), h.refd, h.rle, by omega, h.wsl⟩
  rw [← List.drop_drop, List.drop_one, List.map_tail, List.map_tail, h.same]
theorem PlayI.none {k : Int} {i : Nat} {ms : List TMsg} {rf : Int} {ws : List TAsk} {wl rg : Nat} (h : PlayI k i ms rf ws wl rg) (hp : ¬ 0 < ms.length) : PlayI k i ms.tail rf ws wl rg := by
  have : ms = [] := List.eq_nil_of_length_eq_zero (by omega)
  subst this; exact h
theorem PlayI.head {k : Int} {i : Nat} {ms : List TMsg} {rf : Int} {ws : List TAsk} {wl rg : Nat} (h : PlayI k i ms rf ws wl rg) (hp : 0 < ms.length) {e : TAsk} (he : ws[wl]? = some e) : mKey (headM ms) = aKey e := by
  have h1 := congrArg (fun z => z[0]?) h.same
  simp only [List.getElem?_map, List.getElem?_drop, Nat.add_zero, he] at h1
  cases ms with
  | nil => simp at hp
  | cons m t => simpa [headM] using h1
theorem PlayI.put {k : Int} {i : Nat} {ms : List TMsg} {rf : Int} {ws : List TAsk} {wl rg : Nat} (h : PlayI k i ms rf ws wl rg) (hp : (ms.length : Int) < k) {e : TAsk} (he : e.pdu.length ≤ 140737488351232) :
    PlayI k (i + 1) (qL ms k ⟨e.id, 0, e.pdu⟩) (qR ms k rf) (ws.drop wl ++ [e]) 0 rg := by
  have hl := h.len
  have hw := h.wsl
  unfold qL qR
  rw [if_pos hp, if_pos hp]
  refine ⟨?_, by simp; omega, fun m hm => ?_, h.refd, by have := h.rle; omega, by simp, by simp; omega⟩
  · rw [List.drop_zero, List.map_append, List.map_append, h.same]; rfl
  · rcases List.mem_append.1 hm with a | a
    · exact h.fine m a
    · simp at a; subst a; exact he
theorem PlayI.full {k : Int} {i : Nat} {ms : List TMsg} {rf : Int} {ws : List TAsk} {wl rg : Nat} (h : PlayI k i ms rf ws wl rg) (hp : ¬ (ms.length : Int) < k) {e : TAsk} :
    PlayI k (i + 1) (qL ms k ⟨e.id, 0, e.pdu⟩) (qR ms k rf) ws wl (rg + 1) := by
  unfold qL qR
  rw [if_neg hp, if_neg hp]
  exact ⟨h.same, h.room, h.fine, by have := h.refd; omega, by have := h.rle; omega, h.wle, by have := h.wsl; omega⟩
/-- Requests that wait, numbered as they came. -/
structure OrderI (k : Int) (i : Nat) (ms : List TMsg) (last : Int) (wt : Nat) : Prop where
  asc : ms.Pairwise fun a b => a.id < b.id
  above : ∀ m ∈ ms, last < m.id ∧ m.id < i
  room : (ms.length : Int) ≤ k
  cnt : wt = ms.length
  fine : Fine ms
  low : -1 ≤ last ∧ last < i
theorem OrderI.nil {k : Int} (hk : 0 ≤ k) : OrderI k 0 [] (-1) 0 := ⟨.nil, (by intro m hm; cases hm), by simpa using hk, rfl, (by intro m hm; cases hm), by omega⟩
theorem OrderI.up {k : Int} {i : Nat} {ms : List TMsg} {la : Int} {wt : Nat} (h : OrderI k i ms la wt) : OrderI k (i + 1) ms la wt :=
  ⟨h.asc, fun m hm => by have := h.above m hm; omega, h.room, h.cnt, h.fine, by have := h.low; omega⟩
theorem OrderI.headI {k : Int} {i : Nat} {ms : List TMsg} {la : Int} {wt : Nat} (h : OrderI k i ms la wt) (hp : 0 < ms.length) : la < (headM ms).id ∧ (headM ms).id < i := by
  cases ms with
  | nil => simp at hp
  | cons m t => exact h.above m (by simp)
theorem OrderI.take {k : Int} {i : Nat} {ms : List TMsg} {la : Int} {wt : Nat} (h : OrderI k i ms la wt) (hp : 0 < ms.length) : OrderI k (i + 1) ms.tail (headM ms).id (wt - 1) := by
  have h1 := h.headI hp
  have h2 := h.low
  refine OrderI.up ?_
  cases ms with
  | nil => simp at hp
  | cons m t =>
    have h3 := h.room; have h4 := h.cnt
    have ha := List.pairwise_cons.1 h.asc
    exact ⟨ha.2, fun x hx => ⟨ha.1 x hx, (h.above x (by simp [List.mem_of_mem_tail, List.tail] at hx ⊢; exact .inr hx)).2⟩, by simp at h3 ⊢; omega, by simp at h4 ⊢; omega, fun x hx => h.fine x (List.mem_cons_of_mem _ hx), by simp [headM] at h1 ⊢; omega⟩
theorem OrderI.none {k : Int} {i : Nat} {ms : List TMsg} {la : Int} {wt : Nat} (h : OrderI k i ms la wt) (hp : ¬ 0 < ms.length) : OrderI k (i + 1) ms.tail la wt := by
  have : ms = [] := List.eq_nil_of_length_eq_zero (by omega)
  subst this; exact h.up
theorem OrderI.put {k : Int} {i : Nat} {ms : List TMsg} {la : Int} {wt : Nat} (h : OrderI k i ms la wt) (hp : (ms.length : Int) < k) : OrderI k (i + 1) (qL ms k ⟨i, 0, []⟩) la (wt + 1) := by
  unfold qL
  rw [if_pos hp]
  have h2 := h.low
  refine ⟨?_, fun m hm => ?_, by simp; omega, by have := h.cnt; simp; omega, fun m hm => ?_, by omega⟩
  · rw [List.pairwise_append]
    refine ⟨h.asc, List.pairwise_singleton _ _, fun a ha b hb => ?_⟩
    simp at hb; subst hb; exact (h.above a ha).2
  · rcases List.mem_append.1 hm with a | a
    · have := h.above m a; omega
    · simp at a; subst a; simp only; omega
  · rcases List.mem_append.1 hm with a | a
    · exact h.fine m a
    · simp at a; subst a; simp
theorem OrderI.full {k : Int} {i : Nat} {ms : List TMsg} {la : Int} {wt : Nat} (h : OrderI k i ms la wt) (hp : ¬ (ms.length : Int) < k) : OrderI k (i + 1) (qL ms k ⟨i, 0, []⟩) la wt := by
  unfold qL
  rw [if_neg hp]; exact h.up
/-- What was taken in, less what was taken out. -/
structure AllI (k : Int) (i : Nat) (ms : List TMsg) (ic oc : Nat) : Prop where
  asc : ms.Pairwise fun a b => a.id < b.id
  below : ∀ m ∈ ms, m.id < i
  room : (ms.length : Int) ≤ k
  cnt : ic = oc + ms.length
  fine : Fine ms
  le : ic ≤ i
theorem AllI.nil {k : Int} (hk : 0 ≤ k) : AllI k 0 [] 0 0 := ⟨.nil, (by intro m hm; cases hm), by simpa using hk, rfl, (by intro m hm; cases hm), by omega⟩
theorem AllI.up {k : Int} {i : Nat} {ms : List TMsg} {ic oc : Nat} (h : AllI k i ms ic oc) : AllI k (i + 1) ms ic oc :=
  ⟨h.asc, fun m hm => by have := h.below m hm; omega, h.room, h.cnt, h.fine, by have := h.le; omega⟩
theorem AllI.take {k : Int} {i : Nat} {ms : List TMsg} {ic oc : Nat} (h : AllI k i ms ic oc) (hp : 0 < ms.length) : AllI k (i + 1) ms.tail ic (oc + 1) := by
  refine AllI.up ?_
  cases ms with
  | nil => simp at hp
  | cons m t =>
    have h3 := h.room; have h4 := h.cnt
    exact ⟨(List.pairwise_cons.1 h.asc).2, fun x hx => h.below x (List.mem_cons_of_mem _ hx), by simp at h3 ⊢; omega, by simp at h4 ⊢; omega, fun x hx => h.fine x (List.mem_cons_of_mem _ hx), h.le⟩
theorem AllI.none {k : Int} {i : Nat} {ms : List TMsg} {ic oc : Nat} (h : AllI k i ms ic oc) (hp : ¬ 0 < ms.length) : AllI k (i + 1) ms.tail ic oc := by
  have : ms = [] := List.eq_nil_of_length_eq_zero (by omega)
  subst this; exact h.up
theorem AllI.put {k : Int} {i : Nat} {ms : List TMsg} {ic oc : Nat} (h : AllI k i ms ic oc) (hp : (ms.length : Int) < k) : AllI k (i + 1) (qL ms k ⟨i, 0, []⟩) (ic + 1) oc := by
  unfold qL
  rw [if_pos hp]
  refine ⟨?_, fun m hm => ?_, by simp; omega, by have := h.cnt; simp; omega, fun m hm => ?_, by have := h.le; omega⟩
  · rw [List.pairwise_append]
    refine ⟨h.asc, List.pairwise_singleton _ _, fun a ha b hb => ?_⟩
    simp at hb; subst hb; exact h.below a ha
  · rcases List.mem_append.1 hm with a | a
    · have := h.below m a; omega
    · simp at a; subst a; simp only; omega
  · rcases List.mem_append.1 hm with a | a
    · exact h.fine m a
    · simp at a; subst a; simp
theorem AllI.full {k : Int} {i : Nat} {ms : List TMsg} {ic oc : Nat} (h : AllI k i ms ic oc) (hp : ¬ (ms.length : Int) < k) : AllI k (i + 1) (qL ms k ⟨i, 0, []⟩) ic oc := by
  unfold qL
  rw [if_neg hp]; exact h.up
theorem qR_le (l : List TMsg) (k r : Int) : r ≤ qR l k r ∧ qR l k r ≤ r + 1 := by unfold qR; split <;> omega
theorem pair_lt {l : List TMsg} (h : l.Pairwise fun a b => a.id < b.id) {i : Nat} {a b : TMsg} (ha : l[i]? = some a) (hb : l[i + 1]? = some b) : a.id < b.id := by
  obtain ⟨h1, rfl⟩ := List.getElem?_eq_some_iff.1 ha
  obtain ⟨h2, rfl⟩ := List.getElem?_eq_some_iff.1 hb
  exact List.pairwise_iff_getElem.1 h i (i + 1) h1 h2 (by omega)
end Go.Proofs.Yteedhlgdbankiaa
