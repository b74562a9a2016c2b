/- A part of a proof of a law of the store, without conditions: its texts are: Fa Fb Fc Fd Fe Ff Fg Fh. -/
import Derived.Orders
import Derived.LoopN
import Derived.Below
import Derived.Laws.Sem
import Derived.Laws.Entries
import Derived.Deep.MidRow
import Derived.Laws.Append
/- Abstract values and memory, and when they stand for the model's. -/
namespace Go.Proofs.YtefjnnghfloddaaGreat.Abs
set_option linter.unusedVariables false
set_option linter.unusedSimpArgs false
inductive V where
  | int (k : IntKind) (n : Int)
  | bool (b : Bool)
  | str (s : ByteArray)
  | nilp
  | ptr (b o : Nat)
  | nils
  | sle
  | sl (b o n c z : Nat) (ex : Bool)
  | fn (f : FuncId) (first captured : List V)
  | nilf
  | ifc (t : TypeId) (v : V)
  | nili
  | agg (l : List V)
  | tup (l : List V)
  deriving Inhabited
def V.isCell : V → Bool
  | .agg _ | .tup _ => false
  | _ => true
def V.cells : V → List V
  | .agg l => l
  | v => [v]
abbrev V.undef : V := .tup []
structure Pl where
  B : Nat
  O : Nat
  L : Nat
  rw : Bool
abbrev Rho := Nat → Option Pl
def Rho.le (ρ ρ' : Rho) : Prop := ∀ b p, ρ b = some p → ρ' b = some p
mutual
def Rel (ρ : Rho) : V → Value → Prop
  | .int k n, x => x = .int k n
  | .bool b, x => x = .bool b
  | .str s, x => x = .string s
  | .nilp, x => x = .pointer none
  | .ptr b o, x => ∃ p, ρ b = some p ∧ x = .pointer (some ⟨p.B, p.O + o, none⟩)
  | .nils, x => x = .slice none 0 0
  | .sle, x => ∃ a, x = .slice (some a) 0 0
  | .sl b o n c z ex, x => ∃ p Q c', ρ b = some p ∧ x = .slice (some ⟨p.B, Q, none⟩) n c' ∧ n ≤ c ∧ c ≤ c' ∧ (ex = true → c' = c) ∧ (0 < c → Q = p.O + o) ∧ p.O ≤ Q ∧ (p.rw = true → Q + c' * z ≤ p.O + p.L)
  | .fn f fs cs, x => ∃ fs' cs', x = .func (.func f) fs' cs' ∧ RelL ρ fs fs'.toList ∧ RelL ρ cs cs'.toList
  | .nilf, x => x = .nilFunc
  | .ifc t v, x => ∃ y, x = .iface t y ∧ Rel ρ v y
  | .nili, x => x = .nilIface
  | .agg l, x => ∃ l', x = .agg l' ∧ RelL ρ l l'.toList
  | .tup l, x => ∃ l', x = .tuple l' ∧ RelL ρ l l'.toList
def RelL (ρ : Rho) : List V → List Value → Prop
  | [], xs => xs = []
  | v :: l, xs => ∃ y ys, xs = y :: ys ∧ Rel ρ v y ∧ RelL ρ l ys
end
mutual
theorem Rel.mono {ρ ρ' : Rho} (h : ρ.le ρ') : ∀ (v : V) (x : Value), Rel ρ v x → Rel ρ' v x
  | .int k n, x, r => by simpa [Rel] using r
  | .bool b, x, r => by simpa [Rel] using r
  | .str s, x, r => by simpa [Rel] using r
  | .nilp, x, r => by simpa [Rel] using r
  | .ptr b o, x, r => by
    simp only [Rel] at r ⊢
    obtain ⟨p, hp, e⟩ := r
    exact ⟨p, h _ _ hp, e⟩
  | .nils, x, r => by simpa [Rel] using r
  | .sle, x, r => by simpa [Rel] using r
  | .sl b o n c z ex, x, r => by
    simp only [Rel] at r ⊢
    obtain ⟨p, Q, c', hp, e⟩ := r
    exact ⟨p, Q, c', h _ _ hp, e⟩
  | .fn f fs cs, x, r => by
    simp only [Rel] at r ⊢
    obtain ⟨fs', cs', e, h1, h2⟩ := r
    exact ⟨fs', cs', e, RelL.mono h _ _ h1, RelL.mono h _ _ h2⟩
  | .nilf, x, r => by simpa [Rel] using r
  | .ifc t v, x, r => by
    simp only [Rel] at r ⊢
    obtain ⟨y, e, hy⟩ := r
    exact ⟨y, e, Rel.mono h _ _ hy⟩
  | .nili, x, r => by simpa [Rel] using r
  | .agg l, x, r => by
    simp only [Rel] at r ⊢
    obtain ⟨l', e, hl⟩ := r
    exact ⟨l', e, RelL.mono h _ _ hl⟩
  | .tup l, x, r => by
    simp only [Rel] at r ⊢
    obtain ⟨l', e, hl⟩ := r
    exact ⟨l', e, RelL.mono h _ _ hl⟩
theorem RelL.mono {ρ ρ' : Rho} (h : ρ.le ρ') : ∀ (l : List V) (xs : List Value), RelL ρ l xs → RelL ρ' l xs
  | [], xs, r => by simpa [RelL] using r
  | v :: l, xs, r => by
    simp only [RelL] at r ⊢
    obtain ⟨y, ys, e, h1, h2⟩ := r
    exact ⟨y, ys, e, Rel.mono h _ _ h1, RelL.mono h _ _ h2⟩
end
theorem Rel.undef (ρ : Rho) : Rel ρ V.undef Go.undef := by
  simp only [Rel, RelL, Go.undef]
  exact ⟨#[], rfl, rfl⟩
theorem RelL.length {ρ : Rho} : ∀ {l : List V} {xs : List Value}, RelL ρ l xs → xs.length = l.length
  | [], xs, r => by simp only [RelL] at r; simp [r]
  | v :: l, xs, r => by
    simp only [RelL] at r
    obtain ⟨y, ys, rfl, _, h2⟩ := r
    simp [RelL.length h2]
theorem RelL.get {ρ : Rho} : ∀ {l : List V} {xs : List Value}, RelL ρ l xs → ∀ (i : Nat) (v : V), l[i]? = some v → ∃ x, xs[i]? = some x ∧ Rel ρ v x
  | [], xs, r, i, v, hv => by simp at hv
  | u :: l, xs, r, i, v, hv => by
    simp only [RelL] at r
    obtain ⟨y, ys, rfl, h1, h2⟩ := r
    cases i with
    | zero => simp at hv; subst hv; exact ⟨y, rfl, h1⟩
    | succ i => simpa using RelL.get h2 i v (by simpa using hv)
theorem RelL.of_get {ρ : Rho} : ∀ {l : List V} {xs : List Value}, xs.length = l.length → (∀ (i : Nat) v x, l[i]? = some v → xs[i]? = some x → Rel ρ v x) → RelL ρ l xs
  | [], xs, hl, h => by simpa [RelL] using hl
  | u :: l, xs, hl, h => by
    cases xs with
    | nil => simp at hl
    | cons y ys =>
      simp only [RelL]
      exact ⟨y, ys, rfl, h 0 u y rfl rfl, RelL.of_get (by simpa using hl) fun i v x hv hx => h (i + 1) v x (by simpa using hv) (by simpa using hx)⟩
theorem RelL.append {ρ : Rho} {l : List V} {xs : List Value} {l' : List V} {xs' : List Value} (h : RelL ρ l xs) (h' : RelL ρ l' xs') : RelL ρ (l ++ l') (xs ++ xs') := by
  induction l generalizing xs with
  | nil => simp only [RelL] at h; subst h; simpa using h'
  | cons u l ih =>
    simp only [RelL] at h
    obtain ⟨y, ys, rfl, h1, h2⟩ := h
    simp only [List.cons_append, RelL]
    exact ⟨y, ys ++ xs', rfl, h1, ih h2⟩
theorem RelL.drop {ρ : Rho} : ∀ (n : Nat) {l : List V} {xs : List Value}, RelL ρ l xs → RelL ρ (l.drop n) (xs.drop n)
  | 0, l, xs, h => by simpa using h
  | n + 1, [], xs, h => by simp only [RelL] at h; subst h; simp [RelL]
  | n + 1, u :: l, xs, h => by
    simp only [RelL] at h
    obtain ⟨y, ys, rfl, h1, h2⟩ := h
    simpa using RelL.drop n h2
theorem RelL.take {ρ : Rho} : ∀ (n : Nat) {l : List V} {xs : List Value}, RelL ρ l xs → RelL ρ (l.take n) (xs.take n)
  | 0, l, xs, h => by simp [RelL]
  | n + 1, [], xs, h => by simp only [RelL] at h; subst h; simp [RelL]
  | n + 1, u :: l, xs, h => by
    simp only [RelL] at h
    obtain ⟨y, ys, rfl, h1, h2⟩ := h
    simp only [List.take_succ_cons, RelL]
    exact ⟨y, ys.take n, rfl, h1, RelL.take n h2⟩
theorem RelL.mem {ρ : Rho} {l : List V} {xs : List Value} (h : RelL ρ l xs) {x : Value} (hx : x ∈ xs) : ∃ v, v ∈ l ∧ Rel ρ v x := by
  induction l generalizing xs with
  | nil => simp only [RelL] at h; subst h; simp at hx
  | cons u l ih =>
    simp only [RelL] at h
    obtain ⟨y, ys, rfl, h1, h2⟩ := h
    rcases List.mem_cons.1 hx with rfl | hx
    · exact ⟨u, by simp, h1⟩
    · obtain ⟨v, hv, hr⟩ := ih h2 hx
      exact ⟨v, by simp [hv], hr⟩
theorem Rel.cell {ρ : Rho} {v : V} {x : Value} (h : Rel ρ v x) (hv : v.isCell = true) : x.oneCell' = true := by
  cases v <;> simp only [Rel, V.isCell] at h hv
  case fn => obtain ⟨_, _, rfl, _⟩ := h; rfl
  case ptr => obtain ⟨_, _, rfl⟩ := h; rfl
  case sle => obtain ⟨_, rfl⟩ := h; rfl
  case sl => obtain ⟨_, _, _, _, rfl, _⟩ := h; rfl
  case ifc => obtain ⟨_, rfl, _⟩ := h; rfl
  case agg => simp at hv
  case tup => simp at hv
  all_goals (subst h; rfl)
theorem Rel.cells {ρ : Rho} {v : V} {x : Value} (h : Rel ρ v x) : RelL ρ v.cells x.cells.toList := by
  have one : ∀ y : Value, Rel ρ v y → y.cells = #[y] → v.cells = [v] → RelL ρ v.cells y.cells.toList := by
    intro y hy e1 e2
    rw [e1, e2]
    simp only [RelL]
    exact ⟨y, [], rfl, hy, rfl⟩
  cases v
  case agg l =>
    simp only [Rel] at h
    obtain ⟨l', rfl, hl⟩ := h
    simpa [V.cells, Value.cells] using hl
  all_goals
    refine one x h ?_ rfl
    simp only [Rel] at h
    first
      | (subst h; rfl)
      | (obtain ⟨_, _, rfl⟩ := h; rfl)
      | (obtain ⟨_, rfl⟩ := h; rfl)
      | (obtain ⟨_, _, rfl, _⟩ := h; rfl)
      | (obtain ⟨_, _, _, _, rfl, _⟩ := h; rfl)
      | (obtain ⟨_, rfl, _⟩ := h; rfl)
structure Blk where
  cells : List V
  st : Nat
abbrev Mem := List Blk
structure Sim (ρ : Rho) (m : Mem) (w : World) : Prop where
  dom : ∀ b p, ρ b = some p → b < m.length ∧ p.B < w.heap.size
  cell : ∀ b p k, ρ b = some p → m[b]? = some k → k.st ≠ 0 → ∀ i v, k.cells[i]? = some v → v.isCell = true ∧ ∃ x, w.cell? ⟨p.B, p.O + i, none⟩ = some x ∧ Rel ρ v x
  own : ∀ b p k, ρ b = some p → m[b]? = some k → k.st = 2 → p.rw = true ∧ k.cells.length ≤ p.L ∧ ∃ arr ty, w.heap[p.B]? = some (.cells arr ty (0, 0)) ∧ p.O + p.L ≤ arr.size
  apart : ∀ b p k b' p' k', ρ b = some p → m[b]? = some k → k.st = 2 → ρ b' = some p' → m[b']? = some k' → k'.st ≠ 0 → p.B = p'.B → b = b'
def Own (ρ : Rho) (m : Mem) (B : Nat) : Prop := ∃ b p k, ρ b = some p ∧ m[b]? = some k ∧ k.st = 2 ∧ p.B = B
structure Step (ρ : Rho) (m : Mem) (w : World) (ρ' : Rho) (m' : Mem) (w' : World) : Prop where
  ext : ∀ b, b < m.length → ρ' b = ρ b
  len : m.length ≤ m'.length
  size : w.heap.size ≤ w'.heap.size
  keep : ∀ B, B < w.heap.size → ¬ Own ρ m B → w'.heap[B]? = w.heap[B]? ∧ ¬ Own ρ' m' B
  os : w'.os = w.os
  tape : w'.tape = w.tape
  output : w'.output = w.output
  st : ∀ b k', b < m.length → m'[b]? = some k' → k'.st ≠ 0 → ∃ k, m[b]? = some k ∧ k.st = k'.st
  new : ∀ b p k, m.length ≤ b → ρ' b = some p → m'[b]? = some k → k.st ≠ 0 → k.st = 2
theorem Step.refl (ρ : Rho) (m : Mem) (w : World) : Step ρ m w ρ m w :=
  ⟨fun _ _ => rfl, Nat.le_refl _, Nat.le_refl _, fun _ _ h => ⟨rfl, h⟩, rfl, rfl, rfl, fun b k' _ h _ => ⟨k', h, rfl⟩, fun b p k h _ hk _ => by rw [List.getElem?_eq_none h] at hk; cases hk⟩
theorem Step.trans {ρ ρ' ρ'' : Rho} {m m' m'' : Mem} {w w' w'' : World} (h : Step ρ m w ρ' m' w') (k : Step ρ' m' w' ρ'' m'' w'') : Step ρ m w ρ'' m'' w'' where
  ext b hb := (k.ext b (Nat.lt_of_lt_of_le hb h.len)).trans (h.ext b hb)
  len := Nat.le_trans h.len k.len
  size := Nat.le_trans h.size k.size
  keep B hB hn := by
    obtain ⟨e, n1⟩ := h.keep B hB hn
    obtain ⟨e', n2⟩ := k.keep B (Nat.lt_of_lt_of_le hB h.size) n1
    exact ⟨e'.trans e, n2⟩
  os := k.os.trans h.os
  tape := k.tape.trans h.tape
  output := k.output.trans h.output
  st b k' hb hk hst := by
    obtain ⟨k1, h1, h2⟩ := k.st b k' (Nat.lt_of_lt_of_le hb h.len) hk hst
    obtain ⟨k0, h3, h4⟩ := h.st b k1 hb h1 (by omega)
    exact ⟨k0, h3, h4.trans h2⟩
  new b p kb hb hp hk hst := by
    rcases Nat.lt_or_ge b m'.length with h1 | h1
    · obtain ⟨k1, h2, h3⟩ := k.st b kb h1 hk hst
      rw [k.ext b h1] at hp
      exact h3 ▸ h.new b p k1 hb hp h2 (by omega)
    · exact k.new b p kb h1 hp hk hst
theorem Step.le {ρ ρ' : Rho} {m m' : Mem} {w w' : World} (h : Step ρ m w ρ' m' w') (hd : ∀ b p, ρ b = some p → b < m.length ∧ p.B < w.heap.size) : ρ.le ρ' :=
  fun b p hp => by rw [h.ext b (hd b p hp).1]; exact hp
end Go.Proofs.YtefjnnghfloddaaGreat.Abs

/- What the run does to memory, told on both sides: new rows, stores into the run's own rows, rows that grow. -/
namespace Go.Proofs.YtefjnnghfloddaaGreat.Abs
set_option linter.unusedVariables false
set_option linter.unusedSimpArgs false
def put {α : Type} : List α → Nat → List α → List α
  | l, _, [] => l
  | l, o, x :: xs => put (l.set o x) (o + 1) xs
@[simp] theorem put_nil {α : Type} (l : List α) (o : Nat) : put l o [] = l := rfl
@[simp] theorem put_one {α : Type} (l : List α) (o : Nat) (x : α) : put l o [x] = l.set o x := rfl
@[simp] theorem put_length {α : Type} (l : List α) (o : Nat) (xs : List α) : (put l o xs).length = l.length := by
  induction xs generalizing l o with
  | nil => rfl
  | cons x xs ih => simp [put, ih]
theorem put_get_lt {α : Type} (l : List α) (o : Nat) (xs : List α) (i : Nat) (h : i < o) : (put l o xs)[i]? = l[i]? := by
  induction xs generalizing l o with
  | nil => rfl
  | cons x xs ih => rw [put, ih _ _ (by omega), List.getElem?_set_ne (by omega)]
theorem put_get_ge {α : Type} (l : List α) (o : Nat) (xs : List α) (i : Nat) (h : o + xs.length ≤ i) : (put l o xs)[i]? = l[i]? := by
  induction xs generalizing l o with
  | nil => rfl
  | cons x xs ih => simp only [List.length_cons] at h; rw [put, ih _ _ (by omega), List.getElem?_set_ne (by omega)]
theorem put_get_in {α : Type} (l : List α) (o : Nat) (xs : List α) (i : Nat) (h : i < xs.length) (hl : o + xs.length ≤ l.length) : (put l o xs)[o + i]? = xs[i]? := by
  induction xs generalizing l o i with
  | nil => simp at h
  | cons x xs ih =>
    simp only [List.length_cons] at h hl
    rw [put]
    cases i with
    | zero =>
      rw [put_get_lt _ _ _ _ (by omega)]
      simp only [Nat.add_zero, List.getElem?_cons_zero]
      rw [List.getElem?_set_self (by omega)]
    | succ i =>
      have := ih (l.set o x) (o + 1) i (by omega) (by simp; omega)
      rw [show o + (i + 1) = o + 1 + i by omega, this]
      rfl
theorem setCells_heap (B : Nat) : ∀ (ys : List Value) (q : Nat) (w : World) (arr : Array Value) (ty : TypeId) (fr : Nat × Nat), w.heap[B]? = some (.cells arr ty fr) →
    (w.setCells B q ys).heap[B]? = some (.cells (put arr.toList q ys).toArray ty fr) ∧ (∀ B', B' ≠ B → (w.setCells B q ys).heap[B']? = w.heap[B']?) ∧ (w.setCells B q ys).heap.size = w.heap.size ∧
    (w.setCells B q ys).os = w.os ∧ (w.setCells B q ys).tape = w.tape ∧ (w.setCells B q ys).output = w.output
  | [], q, w, arr, ty, fr, h => by simp [World.setCells, h]
  | y :: ys, q, w, arr, ty, fr, h => by
    have hB : B < w.heap.size := by
      rcases Nat.lt_or_ge B w.heap.size with h1 | h1
      · exact h1
      · rw [Array.getElem?_eq_none h1] at h; cases h
    have h1 : (w.setCell ⟨B, q, none⟩ y).heap[B]? = some (.cells (arr.setIfInBounds q y) ty fr) := by
      simp only [World.setCell, Array.getElem?_modify, h]
      simp
    have h2 : ∀ B', B' ≠ B → (w.setCell ⟨B, q, none⟩ y).heap[B']? = w.heap[B']? := by
      intro B' hne
      simp only [World.setCell, Array.getElem?_modify]
      rw [if_neg (fun e => hne e.symm)]
    have h3 : (w.setCell ⟨B, q, none⟩ y).heap.size = w.heap.size := by simp [World.setCell]
    obtain ⟨a1, a2, a3, a4, a5, a6⟩ := setCells_heap B ys (q + 1) (w.setCell ⟨B, q, none⟩ y) _ ty fr h1
    refine ⟨?_, fun B' hne => (a2 B' hne).trans (h2 B' hne), a3.trans h3, a4, a5, a6⟩
    rw [World.setCells, a1]
    simp [put]
theorem cell_of_heap {w : World} {B i : Nat} {arr : Array Value} {ty : TypeId} {fr : Nat × Nat} (h : w.heap[B]? = some (.cells arr ty fr)) : w.cell? ⟨B, i, none⟩ = arr[i]? := by
  simp [World.cell?, h]
theorem frozen_of_heap {w : World} {B i : Nat} {arr : Array Value} {ty : TypeId} (h : w.heap[B]? = some (.cells arr ty (0, 0))) : w.frozen? ⟨B, i, none⟩ = false := by
  simp [World.frozen?, h]
theorem cell_congr {w w' : World} {B i : Nat} (h : w'.heap[B]? = w.heap[B]?) : w'.cell? ⟨B, i, none⟩ = w.cell? ⟨B, i, none⟩ := by
  simp [World.cell?, h]
theorem range_of {ρ : Rho} {w : World} {B : Nat} : ∀ (l : List V) (q : Nat), (∀ i v, l[i]? = some v → v.isCell = true ∧ ∃ x, w.cell? ⟨B, q + i, none⟩ = some x ∧ Rel ρ v x) →
    ∃ xs, RelL ρ l xs ∧ (∀ j x, xs[j]? = some x → w.cell? ⟨B, q + j, none⟩ = some x) ∧ (∀ x ∈ xs, x.oneCell' = true)
  | [], q, h => ⟨[], by simp [RelL], by simp, by simp⟩
  | v :: l, q, h => by
    obtain ⟨hv, x, hx, hr⟩ := h 0 v rfl
    obtain ⟨xs, h1, h2, h3⟩ := range_of l (q + 1) (fun i u hu => by
      have := h (i + 1) u (by simpa using hu)
      rwa [show q + (i + 1) = q + 1 + i by omega] at this)
    refine ⟨x :: xs, by simp only [RelL]; exact ⟨x, xs, rfl, hr, h1⟩, fun j y hy => ?_, ?_⟩
    · cases j with
      | zero => simp at hy; subst hy; exact hx
      | succ j => rw [show q + (j + 1) = q + 1 + j by omega]; exact h2 j y (by simpa using hy)
    · intro y hy
      rcases List.mem_cons.1 hy with rfl | hy
      · exact hr.cell hv
      · exact h3 y hy
def Rho.add (ρ : Rho) (b : Nat) (p : Pl) : Rho := fun c => if c = b then some p else ρ c
theorem Rho.add_self (ρ : Rho) (b : Nat) (p : Pl) : ρ.add b p b = some p := by simp [Rho.add]
theorem Rho.add_ne (ρ : Rho) (b : Nat) (p : Pl) {c : Nat} (h : c ≠ b) : ρ.add b p c = ρ c := by simp [Rho.add, h]
theorem Sim.dom_le {ρ : Rho} {m : Mem} {w : World} (S : Sim ρ m w) (p : Pl) : ρ.le (ρ.add m.length p) := by
  intro b q hq
  have := (S.dom b q hq).1
  rw [Rho.add_ne _ _ _ (by omega)]
  exact hq
theorem Sim.alloc {ρ : Rho} {m : Mem} {w w' : World} (S : Sim ρ m w) {l : List V} {xs : List Value} {arr : Array Value} {ty : TypeId}
    (hl : RelL ρ l xs) (hc : ∀ v ∈ l, v.isCell = true) (ha : ∀ (j : Nat) x, xs[j]? = some x → arr[j]? = some x)
    (hw : w'.heap = w.heap.push (.cells arr ty (0, 0))) (h1 : w'.os = w.os) (h2 : w'.tape = w.tape) (h3 : w'.output = w.output) :
    Sim (ρ.add m.length ⟨w.heap.size, 0, arr.size, true⟩) (m ++ [⟨l, 2⟩]) w' ∧ Step ρ m w (ρ.add m.length ⟨w.heap.size, 0, arr.size, true⟩) (m ++ [⟨l, 2⟩]) w' := by
  have le := S.dom_le ⟨w.heap.size, 0, arr.size, true⟩
  have new : w'.heap[w.heap.size]? = some (.cells arr ty (0, 0)) := by simp [hw]
  have old : ∀ B, B < w.heap.size → w'.heap[B]? = w.heap[B]? := by
    intro B hB
    rw [hw, Array.getElem?_push_lt hB]
    simp [hB]
  have hsz : w'.heap.size = w.heap.size + 1 := by simp [hw]
  have case1 : ∀ b p, (ρ.add m.length ⟨w.heap.size, 0, arr.size, true⟩) b = some p → (b = m.length ∧ p = ⟨w.heap.size, 0, arr.size, true⟩) ∨ (b ≠ m.length ∧ ρ b = some p ∧ b < m.length ∧ p.B < w.heap.size) := by
    intro b p hp
    by_cases e : b = m.length
    · subst e; rw [Rho.add_self] at hp; exact .inl ⟨rfl, (Option.some.inj hp).symm⟩
    · rw [Rho.add_ne _ _ _ e] at hp; exact .inr ⟨e, hp, (S.dom b p hp).1, (S.dom b p hp).2⟩
  have hm : ∀ b k, b < m.length → (m ++ [⟨l, 2⟩])[b]? = some k → m[b]? = some k := by
    intro b k hb hk
    rwa [List.getElem?_append_left hb] at hk
  have hn : ∀ k, (m ++ [⟨l, 2⟩] : Mem)[m.length]? = some k → k = ⟨l, 2⟩ := by
    intro k hk
    simp at hk
    exact hk.symm
  have len : xs.length = l.length := hl.length
  have hal : l.length ≤ arr.size := by
    rcases Nat.lt_or_ge arr.size l.length with h | h
    · have := ha (l.length - 1) (xs[l.length - 1]'(by omega)) (by simp)
      rw [Array.getElem?_eq_none (by omega)] at this
      cases this
    · exact h
  refine ⟨⟨?_, ?_, ?_, ?_⟩, ⟨?_, by simp, by omega, ?_, h1, h2, h3, fun b k' hb hk _ => ⟨k', hm b k' hb hk, rfl⟩, fun b p k hb hp hk _ => by
    rcases case1 b p hp with ⟨rfl, rfl⟩ | ⟨_, _, hb', _⟩
    · rw [hn k hk]
    · omega⟩⟩
  · intro b p hp
    rcases case1 b p hp with ⟨rfl, rfl⟩ | ⟨_, _, hb, hB⟩
    · simp [hsz]
    · simp; omega
  · intro b p k hp hk hst i v hv
    rcases case1 b p hp with ⟨rfl, rfl⟩ | ⟨_, hρ, hb, hB⟩
    · obtain rfl := hn k hk
      refine ⟨hc v (List.mem_of_getElem? hv), ?_⟩
      obtain ⟨x, hx, hr⟩ := hl.get i v hv
      exact ⟨x, by rw [cell_of_heap new]; simpa using ha i x hx, hr.mono le⟩
    · obtain ⟨h4, x, hx, hr⟩ := S.cell b p k hρ (hm b k hb hk) hst i v hv
      exact ⟨h4, x, by rw [cell_congr (old p.B hB)]; exact hx, hr.mono le⟩
  · intro b p k hp hk hst
    rcases case1 b p hp with ⟨rfl, rfl⟩ | ⟨_, hρ, hb, hB⟩
    · obtain rfl := hn k hk
      exact ⟨rfl, hal, arr, ty, new, by simp⟩
    · obtain ⟨h4, h5, arr', ty', h6, h7⟩ := S.own b p k hρ (hm b k hb hk) hst
      exact ⟨h4, h5, arr', ty', (old p.B hB).trans h6, h7⟩
  · intro b p k b' p' k' hp hk hst hp' hk' hst' e
    rcases case1 b p hp with ⟨rfl, rfl⟩ | ⟨_, hρ, hb, hB⟩
    · rcases case1 b' p' hp' with ⟨rfl, rfl⟩ | ⟨_, hρ', hb', hB'⟩
      · rfl
      · simp at e; omega
    · rcases case1 b' p' hp' with ⟨rfl, rfl⟩ | ⟨_, hρ', hb', hB'⟩
      · simp at e; omega
      · exact S.apart b p k b' p' k' hρ (hm b k hb hk) hst hρ' (hm b' k' hb' hk') hst' e
  · intro b hb
    rw [Rho.add_ne _ _ _ (by omega)]
  · intro B hB hno
    refine ⟨old B hB, ?_⟩
    rintro ⟨b, p, k, hp, hk, hst, rfl⟩
    rcases case1 b p hp with ⟨rfl, rfl⟩ | ⟨_, hρ, hb, hB'⟩
    · simp at hB
    · exact hno ⟨b, p, k, hρ, hm b k hb hk, hst, rfl⟩
theorem Sim.write {ρ : Rho} {m : Mem} {w w' : World} (S : Sim ρ m w) {b o : Nat} {p : Pl} {k : Blk} {us : List V} {ys : List Value}
    (hρ : ρ b = some p) (hk : m[b]? = some k) (hst : k.st = 2) (hu : RelL ρ us ys) (hc : ∀ v ∈ us, v.isCell = true) (hlen : o + us.length ≤ k.cells.length)
    (hw : w' = w.setCells p.B (p.O + o) ys) :
    Sim ρ (m.set b ⟨put k.cells o us, 2⟩) w' ∧ Step ρ m w ρ (m.set b ⟨put k.cells o us, 2⟩) w' := by
  obtain ⟨hrw, hroom, arr, ty, harr, hsz⟩ := S.own b p k hρ hk hst
  obtain ⟨a1, a2, a3, a4, a5, a6⟩ := setCells_heap p.B ys (p.O + o) w arr ty (0, 0) harr
  rw [← hw] at a1 a2 a3 a4 a5 a6
  have hb : b < m.length := (S.dom b p hρ).1
  have lenu : ys.length = us.length := hu.length
  have hset : ∀ b', b' ≠ b → (m.set b ⟨put k.cells o us, 2⟩)[b']? = m[b']? := fun b' hne => by rw [List.getElem?_set_ne (fun e => hne e.symm)]
  have hself : (m.set b ⟨put k.cells o us, 2⟩)[b]? = some ⟨put k.cells o us, 2⟩ := by rw [List.getElem?_set_self hb]
  have old : ∀ b' p' k', ρ b' = some p' → m[b']? = some k' → k'.st ≠ 0 → b' ≠ b → w'.heap[p'.B]? = w.heap[p'.B]? := by
    intro b' p' k' h1 h2 h3 hne
    refine a2 p'.B (fun e => hne ?_)
    exact (S.apart b p k b' p' k' hρ hk hst h1 h2 h3 e.symm).symm
  refine ⟨⟨?_, ?_, ?_, ?_⟩, ⟨fun _ _ => rfl, by simp, by omega, ?_, a4, a5, a6, fun b' k' _ h _ => by
    by_cases e : b' = b
    · subst e; rw [hself] at h; obtain rfl := Option.some.inj h; exact ⟨k, hk, hst⟩
    · rw [hset b' e] at h; exact ⟨k', h, rfl⟩, fun b' p' k' hb' _ hk' _ => by rw [List.getElem?_eq_none (by simpa using hb')] at hk'; cases hk'⟩⟩
  · intro b' p' h
    obtain ⟨h1, h2⟩ := S.dom b' p' h
    simp; omega
  · intro b' p' k' h1 h2 h3 i v hv
    by_cases e : b' = b
    · subst e
      obtain rfl : p' = p := by rw [hρ] at h1; exact (Option.some.inj h1).symm
      rw [hself] at h2
      obtain rfl := Option.some.inj h2
      simp only at hv
      rw [cell_of_heap a1]
      simp only [List.getElem?_toArray]
      rcases Nat.lt_or_ge i o with hi | hi
      · rw [put_get_lt _ _ _ _ hi] at hv
        obtain ⟨h4, x, hx, hr⟩ := S.cell b' p' k hρ hk (by omega) i v hv
        refine ⟨h4, x, ?_, hr⟩
        rw [put_get_lt _ _ _ _ (by omega)]
        rw [cell_of_heap harr] at hx
        simpa using hx
      · rcases Nat.lt_or_ge i (o + us.length) with hi2 | hi2
        · obtain ⟨j, rfl⟩ : ∃ j, i = o + j := ⟨i - o, by omega⟩
          rw [put_get_in _ _ _ _ (by omega) hlen] at hv
          refine ⟨hc v (List.mem_of_getElem? hv), ?_⟩
          obtain ⟨x, hx, hr⟩ := hu.get j v hv
          refine ⟨x, ?_, hr⟩
          rw [show p'.O + (o + j) = p'.O + o + j by omega, put_get_in _ _ _ _ (by omega) (by simp; omega)]
          exact hx
        · rw [put_get_ge _ _ _ _ hi2] at hv
          obtain ⟨h4, x, hx, hr⟩ := S.cell b' p' k hρ hk (by omega) i v hv
          refine ⟨h4, x, ?_, hr⟩
          rw [put_get_ge _ _ _ _ (by omega)]
          rw [cell_of_heap harr] at hx
          simpa using hx
    · rw [hset b' e] at h2
      obtain ⟨h4, x, hx, hr⟩ := S.cell b' p' k' h1 h2 h3 i v hv
      exact ⟨h4, x, by rw [cell_congr (old b' p' k' h1 h2 h3 e)]; exact hx, hr⟩
  · intro b' p' k' h1 h2 h3
    by_cases e : b' = b
    · subst e
      obtain rfl : p' = p := by rw [hρ] at h1; exact (Option.some.inj h1).symm
      rw [hself] at h2
      obtain rfl := Option.some.inj h2
      exact ⟨hrw, by simpa using hroom, _, ty, a1, by simpa using hsz⟩
    · rw [hset b' e] at h2
      obtain ⟨h4, h5, arr', ty', h6, h7⟩ := S.own b' p' k' h1 h2 h3
      exact ⟨h4, h5, arr', ty', (old b' p' k' h1 h2 (by omega) e).trans h6, h7⟩
  · intro b1 p1 k1 b2 p2 k2 h1 h2 h3 h4 h5 h6 e
    have g : ∀ (b' : Nat) (k' : Blk), (m.set b ⟨put k.cells o us, 2⟩)[b']? = some k' → ∃ k'' : Blk, m[b']? = some k'' ∧ k''.st = k'.st := by
      intro b' k' h
      by_cases e : b' = b
      · subst e; rw [hself] at h; obtain rfl := Option.some.inj h; exact ⟨k, hk, hst⟩
      · rw [hset b' e] at h; exact ⟨k', h, rfl⟩
    obtain ⟨k1', g1, g1'⟩ := g b1 k1 h2
    obtain ⟨k2', g2, g2'⟩ := g b2 k2 h5
    exact S.apart b1 p1 k1' b2 p2 k2' h1 g1 (by omega) h4 g2 (by omega) e
  · intro B hB hno
    refine ⟨a2 B (fun e => hno ⟨b, p, k, hρ, hk, hst, e.symm⟩), ?_⟩
    rintro ⟨b', p', k', h1, h2, h3, rfl⟩
    by_cases e : b' = b
    · subst e
      exact hno ⟨b', p', k, h1, hk, hst, rfl⟩
    · rw [hset b' e] at h2
      exact hno ⟨b', p', k', h1, h2, h3, rfl⟩
theorem Sim.regrow {ρ : Rho} {m : Mem} {w w' : World} (S : Sim ρ m w) {b Q n L : Nat} {p : Pl} {k : Blk} {l us : List V} {xs ys : List Value} {st : Nat}
    (hρ : ρ b = some p) (hk : m[b]? = some k) (hst : k.st = 2) (hl : RelL ρ l xs) (hlc : ∀ v ∈ l, v.isCell = true) (hu : RelL ρ us ys) (hc : ∀ v ∈ us, v.isCell = true)
    (hxs : ∀ (j : Nat) x, xs[j]? = some x → w.cell? ⟨p.B, Q + j, none⟩ = some x) (hroom : l.length + us.length ≤ L) (hL : Q + L ≤ p.O + p.L)
    (hw : w' = w.setCells p.B (Q + l.length) ys) :
    Sim (ρ.add m.length ⟨p.B, Q, L, true⟩) (m.set b ⟨[], 0⟩ ++ [⟨l ++ us, 2⟩]) w' ∧ Step ρ m w (ρ.add m.length ⟨p.B, Q, L, true⟩) (m.set b ⟨[], 0⟩ ++ [⟨l ++ us, 2⟩]) w' := by
  obtain ⟨hrw, hroom', arr, ty, harr, hsz⟩ := S.own b p k hρ hk hst
  obtain ⟨a1, a2, a3, a4, a5, a6⟩ := setCells_heap p.B ys (Q + l.length) w arr ty (0, 0) harr
  rw [← hw] at a1 a2 a3 a4 a5 a6
  have le := S.dom_le ⟨p.B, Q, L, true⟩
  have hb : b < m.length := (S.dom b p hρ).1
  have hB : p.B < w.heap.size := (S.dom b p hρ).2
  have lenu : ys.length = us.length := hu.length
  have lenx : xs.length = l.length := hl.length
  have case1 : ∀ b' p', (ρ.add m.length ⟨p.B, Q, L, true⟩) b' = some p' → (b' = m.length ∧ p' = ⟨p.B, Q, L, true⟩) ∨ (b' ≠ m.length ∧ ρ b' = some p' ∧ b' < m.length ∧ p'.B < w.heap.size) := by
    intro b' p' hp
    by_cases e : b' = m.length
    · subst e; rw [Rho.add_self] at hp; exact .inl ⟨rfl, (Option.some.inj hp).symm⟩
    · rw [Rho.add_ne _ _ _ e] at hp; exact .inr ⟨e, hp, (S.dom b' p' hp).1, (S.dom b' p' hp).2⟩
  have hm : ∀ b' k', b' < m.length → (m.set b ⟨[], 0⟩ ++ [⟨l ++ us, 2⟩])[b']? = some k' → k'.st ≠ 0 → b' ≠ b ∧ m[b']? = some k' := by
    intro b' k' hb' hk' hst'
    rw [List.getElem?_append_left (by simpa using hb')] at hk'
    by_cases e : b' = b
    · subst e
      rw [List.getElem?_set_self hb] at hk'
      obtain rfl := Option.some.inj hk'
      exact absurd rfl hst'
    · rw [List.getElem?_set_ne (fun h => e h.symm)] at hk'
      exact ⟨e, hk'⟩
  have hn : ∀ k', (m.set b ⟨[], 0⟩ ++ [⟨l ++ us, 2⟩] : Mem)[m.length]? = some k' → k' = ⟨l ++ us, 2⟩ := by
    intro k' hk'
    rw [List.getElem?_append_right (by simp)] at hk'
    simp at hk'
    exact hk'.symm
  have old : ∀ b' p' k', ρ b' = some p' → m[b']? = some k' → k'.st ≠ 0 → b' ≠ b → w'.heap[p'.B]? = w.heap[p'.B]? ∧ p'.B ≠ p.B := by
    intro b' p' k' h1 h2 h3 hne
    have : p'.B ≠ p.B := fun e => hne (S.apart b p k b' p' k' hρ hk hst h1 h2 h3 e.symm).symm
    exact ⟨a2 p'.B this, this⟩
  have harr2 : Q + l.length + us.length ≤ arr.size := by omega
  refine ⟨⟨?_, ?_, ?_, ?_⟩, ⟨?_, by simp, by omega, ?_, a4, a5, a6, fun b' k' hb' hk' hst' => ⟨k', (hm b' k' hb' hk' hst').2, rfl⟩, fun b' p' k' hb' hp' hk' _ => by
    rcases case1 b' p' hp' with ⟨rfl, rfl⟩ | ⟨_, _, h1, _⟩
    · rw [hn k' hk']
    · omega⟩⟩
  · intro b' p' hp
    rcases case1 b' p' hp with ⟨rfl, rfl⟩ | ⟨_, _, h1, h2⟩
    · simp; omega
    · simp; omega
  · intro b' p' k' hp hk' hst' i v hv
    rcases case1 b' p' hp with ⟨rfl, rfl⟩ | ⟨_, h1, h2, h3⟩
    · obtain rfl := hn k' hk'
      simp only at hv
      rw [cell_of_heap a1]
      simp only [List.getElem?_toArray]
      rcases Nat.lt_or_ge i l.length with hi | hi
      · rw [List.getElem?_append_left hi] at hv
        refine ⟨hlc v (List.mem_of_getElem? hv), ?_⟩
        obtain ⟨x, hx, hr⟩ := hl.get i v hv
        refine ⟨x, ?_, hr.mono le⟩
        rw [put_get_lt _ _ _ _ (by omega)]
        have := hxs i x hx
        rw [cell_of_heap harr] at this
        simpa using this
      · rw [List.getElem?_append_right hi] at hv
        refine ⟨hc v (List.mem_of_getElem? hv), ?_⟩
        obtain ⟨x, hx, hr⟩ := hu.get _ v hv
        refine ⟨x, ?_, hr.mono le⟩
        have hi3 : i - l.length < us.length := by
          rcases Nat.lt_or_ge (i - l.length) us.length with h | h
          · exact h
          · rw [List.getElem?_eq_none h] at hv; cases hv
        have := put_get_in arr.toList (Q + l.length) ys (i - l.length) (by omega) (by simp; omega)
        rw [show Q + l.length + (i - l.length) = Q + i by omega] at this
        rw [this]
        exact hx
    · obtain ⟨hne, h4⟩ := hm b' k' h2 hk' hst'
      obtain ⟨h5, x, hx, hr⟩ := S.cell b' p' k' h1 h4 hst' i v hv
      exact ⟨h5, x, by rw [cell_congr (old b' p' k' h1 h4 hst' hne).1]; exact hx, hr.mono le⟩
  · intro b' p' k' hp hk' hst'
    rcases case1 b' p' hp with ⟨rfl, rfl⟩ | ⟨_, h1, h2, h3⟩
    · obtain rfl := hn k' hk'
      exact ⟨rfl, by simpa using hroom, _, ty, a1, by simp; omega⟩
    · obtain ⟨hne, h4⟩ := hm b' k' h2 hk' (by omega)
      obtain ⟨h5, h6, arr', ty', h7, h8⟩ := S.own b' p' k' h1 h4 hst'
      exact ⟨h5, h6, arr', ty', (old b' p' k' h1 h4 (by omega) hne).1.trans h7, h8⟩
  · intro b1 p1 k1 b2 p2 k2 hp1 hk1 hst1 hp2 hk2 hst2 e
    rcases case1 b1 p1 hp1 with ⟨rfl, rfl⟩ | ⟨_, h1, h2, h3⟩
    · rcases case1 b2 p2 hp2 with ⟨rfl, rfl⟩ | ⟨_, h1', h2', h3'⟩
      · rfl
      · obtain ⟨hne, h4⟩ := hm b2 k2 h2' hk2 hst2
        exact absurd e.symm (old b2 p2 k2 h1' h4 hst2 hne).2
    · obtain ⟨hne, h4⟩ := hm b1 k1 h2 hk1 (by omega)
      rcases case1 b2 p2 hp2 with ⟨rfl, rfl⟩ | ⟨_, h1', h2', h3'⟩
      · exact absurd e (old b1 p1 k1 h1 h4 (by omega) hne).2
      · obtain ⟨hne', h4'⟩ := hm b2 k2 h2' hk2 hst2
        exact S.apart b1 p1 k1 b2 p2 k2 h1 h4 hst1 h1' h4' hst2 e
  · intro b' hb'
    rw [Rho.add_ne _ _ _ (by omega)]
  · intro B hB' hno
    refine ⟨a2 B (fun e => hno ⟨b, p, k, hρ, hk, hst, e.symm⟩), ?_⟩
    rintro ⟨b', p', k', hp, hk', hst', rfl⟩
    rcases case1 b' p' hp with ⟨rfl, rfl⟩ | ⟨_, h1, h2, h3⟩
    · exact hno ⟨b, p, k, hρ, hk, hst, rfl⟩
    · exact hno ⟨b', p', k', h1, (hm b' k' h2 hk' (by omega)).2, hst', rfl⟩
end Go.Proofs.YtefjnnghfloddaaGreat.Abs

/- The operations on abstract values, and that the model's do the same: types, loads, stores, new rows, addresses. -/
namespace Go.Proofs.YtefjnnghfloddaaGreat.Abs
set_option linter.unusedVariables false
set_option linter.unusedSimpArgs false
inductive TK where
  | int (k : IntKind)
  | bool
  | string
  | slice (e : TypeId)
  | struct (fs : List (Nat × TypeId))
  | array (n : Nat) (e : TypeId)
  | ptr (e : TypeId)
  | func
  | iface
structure TI where
  k : TK
  size : Nat
  zero : List V
  bytes : Nat
def TI.agg (i : TI) : Bool := match i.k with
  | .struct _ | .array _ _ => true
  | _ => false
abbrev TT := TypeId → Option TI
def TK.fits : TK → TypeDesc → Prop
  | .int k, d => d = .int k
  | .bool, d => d = .bool
  | .string, d => d = .string
  | .slice e, d => d = .slice e
  | .struct fs, d => ∃ gs : Array Field, d = .struct gs ∧ gs.toList.map (fun f => (f.offset, f.type)) = fs
  | .array n e, d => d = .array n e
  | .ptr e, d => d = .pointer e
  | .func, d => ∃ a b c, d = .func a b c
  | .iface, d => ∃ a, d = .interface a
structure TIok (P : Program) (t : TypeId) (i : TI) : Prop where
  info : ∃ f z, P.info? t = some f ∧ f.size = i.size ∧ f.bytes = i.bytes ∧ f.zero = some z ∧ ∀ ρ, RelL ρ i.zero z.cells.toList
  und : ∃ d, P.underlying t = some d ∧ i.k.fits d
  zlen : i.zero.length = i.size
  zcell : ∀ v ∈ i.zero, v.isCell = true
def TOk (P : Program) (T : TT) : Prop := ∀ t i, T t = some i → TIok P t i
variable {P : Program} {T : TT} {ρ : Rho} {m : Mem} {w : World}
theorem TIok.isAgg {t : TypeId} {i : TI} (h : TIok P t i) (w : World) : (Go.isAgg t).run P w = .ok i.agg w := by
  obtain ⟨d, hd, hk⟩ := h.und
  unfold Go.isAgg
  rw [Sem.run_bind, run_underlying hd w]
  unfold TI.agg
  cases e : i.k <;> rw [e] at hk <;> simp only [TK.fits] at hk
  case struct => obtain ⟨gs, rfl, _⟩ := hk; rfl
  case func => obtain ⟨_, _, _, rfl⟩ := hk; rfl
  case iface => obtain ⟨_, rfl⟩ := hk; rfl
  all_goals (subst hk; rfl)
theorem TIok.sizeOf {t : TypeId} {i : TI} (h : TIok P t i) (w : World) : (Go.sizeOf t).run P w = .ok i.size w := by
  obtain ⟨f, z, hf, hs, _⟩ := h.info
  simp [Go.sizeOf, typeInfo, hf, hs]
theorem TIok.typeInfo {t : TypeId} {i : TI} (h : TIok P t i) (w : World) : ∃ f, (Go.typeInfo t).run P w = .ok f w ∧ f.bytes = i.bytes ∧ f.size = i.size := by
  obtain ⟨f, z, hf, hs, hb, _⟩ := h.info
  exact ⟨f, by simp [Go.typeInfo, hf], hb, hs⟩
theorem TIok.zeroValue {t : TypeId} {i : TI} (h : TIok P t i) (w : World) : ∃ z, (Go.zeroValue t).run P w = .ok z w ∧ ∀ ρ, RelL ρ i.zero z.cells.toList := by
  obtain ⟨f, z, hf, hs, hb, hz, hr⟩ := h.info
  exact ⟨z, by simp [Go.zeroValue, Go.typeInfo, hf, hz], hr⟩
theorem TIok.under {t : TypeId} {i : TI} (h : TIok P t i) (w : World) : ∃ d, (underlying t).run P w = .ok d w ∧ i.k.fits d := by
  obtain ⟨d, hd, hk⟩ := h.und
  exact ⟨d, run_underlying hd w, hk⟩
def opLoad (T : TT) (t : TypeId) (v : V) (m : Mem) : Option V :=
  match v, T t with
  | .ptr b o, some i =>
    match m[b]? with
    | some k => if k.st = 0 then none else if i.agg then (if o + i.size ≤ k.cells.length then some (.agg ((k.cells.drop o).take i.size)) else none) else k.cells[o]?
    | none => none
  | _, _ => none
theorem load_ok (hT : TOk P T) (S : Sim ρ m w) {t : TypeId} {v u : V} {x : Value} (r : Rel ρ v x) (h : opLoad T t v m = some u) :
    ∃ y, (Instr.loadAt t x).run P w = .ok y w ∧ Rel ρ u y := by
  unfold opLoad at h
  split at h
  case h_2 => cases h
  rename_i b o i hi
  split at h
  case h_2 => cases h
  rename_i k hk
  have ht := hT t i hi
  simp only [Rel] at r
  obtain ⟨p, hp, rfl⟩ := r
  split at h
  · cases h
  rename_i hst
  have hcell := S.cell b p k hp hk hst
  simp only [Instr.loadAt, Instr.sureAddr, Sem.run_bind, Sem.run_pure, Result.andThen_ok, loadVar]
  rw [ht.isAgg w]
  simp only [Result.andThen_ok]
  split at h
  · rename_i hagg
    rw [hagg]
    split at h
    case isFalse => cases h
    rename_i hlen
    obtain rfl := Option.some.inj h
    obtain ⟨xs, h1, h2, _⟩ := range_of (ρ := ρ) (w := w) (B := p.B) ((k.cells.drop o).take i.size) (p.O + o) (fun j v hv => by
      have hj : j < i.size := by
        rcases Nat.lt_or_ge j i.size with h | h
        · exact h
        · rw [List.getElem?_eq_none (by simp; omega)] at hv; cases hv
      rw [List.getElem?_take_of_lt hj, List.getElem?_drop] at hv
      have := hcell (o + j) v hv
      rwa [show p.O + (o + j) = p.O + o + j by omega] at this)
    have hx : xs.length = i.size := by rw [h1.length]; simp; omega
    have hl := run_loadCells_list (P := P) (w := w) ⟨p.B, p.O + o, none⟩ xs (fun j v hv => by rw [Addr.add_mid]; exact h2 j v hv)
    rw [hx] at hl
    refine ⟨.agg xs.toArray, ?_, ?_⟩
    · simp [ht.sizeOf w, hl]
    · simp only [Rel]
      exact ⟨xs.toArray, rfl, by simpa using h1⟩
  · rename_i hagg
    have : i.agg = false := by simpa using hagg
    rw [this]
    obtain ⟨_, y, hy, hr⟩ := hcell o u h
    exact ⟨y, by simp [hy], hr⟩
def opStore (T : TT) (t : TypeId) (v u : V) (m : Mem) : Option Mem :=
  match v, T t with
  | .ptr b o, some i =>
    match m[b]? with
    | some k => if k.st = 2 ∧ u.cells.length = i.size ∧ u.cells.all V.isCell = true ∧ o + i.size ≤ k.cells.length then some (m.set b ⟨put k.cells o u.cells, 2⟩) else none
    | none => none
  | _, _ => none
theorem store_ok (hT : TOk P T) (S : Sim ρ m w) {t : TypeId} {v u : V} {x y : Value} {m' : Mem} (r : Rel ρ v x) (ru : Rel ρ u y) (h : opStore T t v u m = some m') :
    ∃ w', (Instr.storeAt t x y).run P w = .ok () w' ∧ Sim ρ m' w' ∧ Step ρ m w ρ m' w' := by
  unfold opStore at h
  split at h
  case h_2 => cases h
  rename_i b o i hi
  split at h
  case h_2 => cases h
  rename_i k hk
  have ht := hT t i hi
  simp only [Rel] at r
  obtain ⟨p, hp, rfl⟩ := r
  split at h
  case isFalse => cases h
  rename_i hc
  obtain ⟨hst, hlen, hall, hroom⟩ := hc
  obtain rfl := Option.some.inj h
  have hcells : ∀ v ∈ u.cells, v.isCell = true := fun v hv => (List.all_eq_true.1 hall) v hv
  have rc := ru.cells
  have hlen2 : y.cells.size = i.size := by have := rc.length; simp at this; omega
  obtain ⟨hrw, hL, arr, ty, harr, hsz⟩ := S.own b p k hp hk hst
  have hone : ∀ v ∈ y.cells.toList, v.oneCell' = true := by
    intro v hv
    obtain ⟨v', hv', hr⟩ := rc.mem hv
    exact hr.cell (hcells v' hv')
  have hs := run_storeCells_cells (P := P) p.B (p.O + o) y.cells.toList 0 w
    (fun j hj => by
      simp at hj
      rw [cell_of_heap harr]
      simp; omega)
    (fun j hj => frozen_of_heap harr) hone
  simp only [Nat.add_zero] at hs
  refine ⟨_, ?_, S.write hp hk hst rc hcells (by omega) rfl⟩
  simp only [Instr.storeAt, Instr.sureAddr, Sem.run_bind, Sem.run_pure, Result.andThen_ok, storeVar, ht.sizeOf w]
  simp [hlen2, hs]
def opBox (v : V) (m : Mem) : Option (V × Mem) := if v.cells.all V.isCell then some (.ptr m.length 0, m ++ [⟨v.cells, 2⟩]) else none
def opAlloc (T : TT) (t : TypeId) (m : Mem) : Option (V × Mem) := match T t with
  | some i => some (.ptr m.length 0, m ++ [⟨i.zero, 2⟩])
  | none => none
def Made (P : Program) (ρ : Rho) (m : Mem) (w : World) (v : V) (m' : Mem) (s : Sem Value) : Prop :=
  ∃ ρ' x w', s.run P w = .ok x w' ∧ Rel ρ' v x ∧ Sim ρ' m' w' ∧ Step ρ m w ρ' m' w'
theorem box_ok (S : Sim ρ m w) {t : TypeId} {v u : V} {x : Value} {m' : Mem} (r : Rel ρ v x) (h : opBox v m = some (u, m')) : Made P ρ m w u m' (Instr.box t x) := by
  unfold opBox at h
  split at h
  case isFalse => cases h
  rename_i hall
  obtain ⟨rfl, rfl⟩ := Prod.mk.inj (Option.some.inj h)
  have hA := S.alloc (w' := { w with heap := w.heap.push (.cells x.cells t) }) (arr := x.cells) (ty := t) r.cells (fun v hv => (List.all_eq_true.1 hall) v hv) (fun j x hx => by simpa using hx) rfl rfl rfl rfl
  refine ⟨_, .pointer (some ⟨w.heap.size, 0, none⟩), _, ?_, ?_, hA.1, hA.2⟩
  · simp [Instr.box, newVar, newRow]
  · simp only [Rel]
    exact ⟨_, Rho.add_self _ _ _, rfl⟩
theorem alloc_ok (hT : TOk P T) (S : Sim ρ m w) {t : TypeId} {u : V} {m' : Mem} (h : opAlloc T t m = some (u, m')) : Made P ρ m w u m' (Instr.alloc t true (.tuple #[])) := by
  unfold opAlloc at h
  split at h
  case h_2 => cases h
  rename_i i hi
  have ht := hT t i hi
  obtain ⟨rfl, rfl⟩ := Prod.mk.inj (Option.some.inj h)
  obtain ⟨z, hz, hr⟩ := ht.zeroValue w
  have hA := S.alloc (w' := { w with heap := w.heap.push (.cells z.cells t) }) (arr := z.cells) (ty := t) (hr ρ) ht.zcell (fun j x hx => by simpa using hx) rfl rfl rfl rfl
  refine ⟨_, .pointer (some ⟨w.heap.size, 0, none⟩), _, ?_, ?_, hA.1, hA.2⟩
  · simp [Instr.alloc, hz, newVar, newRow]
  · simp only [Rel]
    exact ⟨_, Rho.add_self _ _ _, rfl⟩
def zeros (z : List V) : Nat → List V
  | 0 => []
  | n + 1 => z ++ zeros z n
@[simp] theorem zeros_length (z : List V) (n : Nat) : (zeros z n).length = n * z.length := by
  induction n with
  | zero => simp [zeros]
  | succ n ih => simp [zeros, ih, Nat.add_mul]; omega
theorem zeros_get (z : List V) (n i : Nat) (h : i < n * z.length) : (zeros z n)[i]? = z[i % z.length]? := by
  induction n generalizing i with
  | zero => simp at h
  | succ n ih =>
    rw [zeros]
    rcases Nat.lt_or_ge i z.length with hi | hi
    · rw [List.getElem?_append_left hi, Nat.mod_eq_of_lt hi]
    · rw [List.getElem?_append_right hi, ih _ (by rw [Nat.add_mul] at h; omega), ← Nat.mod_eq_sub_mod hi]
theorem zeros_one (v : V) (n : Nat) : zeros [v] n = List.replicate n v := by
  induction n with
  | zero => rfl
  | succ n ih => simp [zeros, ih, List.replicate_succ]
theorem zeros_cell {z : List V} (h : ∀ v ∈ z, v.isCell = true) (n : Nat) : ∀ v ∈ zeros z n, v.isCell = true := by
  induction n with
  | zero => simp [zeros]
  | succ n ih =>
    intro v hv
    simp only [zeros, List.mem_append] at hv
    exact hv.elim (h v) (ih v)
theorem zeros_rel {ρ : Rho} {z : List V} {zs : List Value} (h : RelL ρ z zs) (n : Nat) : RelL ρ (zeros z n) ((List.range (n * zs.length)).map fun i => zs.getD (i % zs.length) undef) := by
  refine RelL.of_get (by simp [h.length]) ?_
  intro i v x hv hx
  have hi : i < n * z.length := by
    rcases Nat.lt_or_ge i (n * z.length) with h | h
    · exact h
    · rw [List.getElem?_eq_none (by simpa using h)] at hv; cases hv
  rw [zeros_get z n i hi] at hv
  obtain ⟨y, hy, hr⟩ := h.get _ v hv
  have hlen := h.length
  simp only [List.getElem?_map, hlen] at hx
  rw [List.getElem?_range hi] at hx
  simp only [Option.map_some, Option.some.injEq, List.getD] at hx
  rw [hy] at hx
  simp at hx
  exact hx ▸ hr
theorem range_map_zero (z : Array Value) (n : Nat) (hz : z.size ≠ 0 ∨ n = 0) : ((Array.range n).map (z[· % z.size]!)).toList = (List.range n).map fun i => z.toList.getD (i % z.toList.length) undef := by
  simp only [Array.toList_map, Array.toList_range]
  apply List.map_congr_left
  intro i hi
  have hi := List.mem_range.1 hi
  have hlt : i % z.size < z.size := Nat.mod_lt _ (by omega)
  rw [getElem!_pos z _ hlt]
  simp [List.getD, hlt]
def fillA (place : Nat → Option (Nat × Nat)) (cells : List V) : List (Nat × V) → Option (List V)
  | [] => some cells
  | (i, v) :: rest =>
    match place i with
    | none => none
    | some (off, size) => if v.cells.length = size ∧ off + size ≤ cells.length ∧ v.cells.all V.isCell = true then fillA place (put cells off v.cells) rest else none
theorem put_rel {ρ : Rho} {us : List V} {ys : List Value} (h : RelL ρ us ys) : ∀ {l : List V} {xs : List Value} (o : Nat), RelL ρ l xs → RelL ρ (put l o us) (put xs o ys) := by
  induction us generalizing ys with
  | nil => intro l xs o hl; simp only [RelL] at h; subst h; exact hl
  | cons u us ih =>
    intro l xs o hl
    simp only [RelL] at h
    obtain ⟨y, ys', rfl, h1, h2⟩ := h
    simp only [put]
    refine ih h2 (o + 1) (RelL.of_get (by simp [hl.length]) ?_)
    intro i v x hv hx
    by_cases e : o = i
    · subst e
      rcases Nat.lt_or_ge o l.length with hi | hi
      · rw [List.getElem?_set_self hi] at hv
        rw [List.getElem?_set_self (by rw [hl.length]; exact hi)] at hx
        obtain rfl := Option.some.inj hv
        obtain rfl := Option.some.inj hx
        exact h1
      · rw [List.getElem?_eq_none (by simpa using hi)] at hv; cases hv
    · rw [List.getElem?_set_ne e] at hv hx
      obtain ⟨x', hx', hr⟩ := hl.get i v hv
      rw [hx] at hx'
      exact (Option.some.inj hx') ▸ hr
theorem foldl_put (l : List Value) : ∀ (arr : Array Value) (off j : Nat), (((l.zipIdx j).foldl (fun cs (c : Value × Nat) => cs.setIfInBounds (off + c.2) c.1) arr)).toList = put arr.toList (off + j) l := by
  induction l with
  | nil => intro arr off j; rfl
  | cons x l ih =>
    intro arr off j
    simp only [List.zipIdx_cons, List.foldl_cons]
    rw [ih]
    simp [put, Nat.add_assoc]
theorem put_cell {l us : List V} (o : Nat) (h : ∀ v ∈ l, v.isCell = true) (hu : ∀ v ∈ us, v.isCell = true) : ∀ v ∈ put l o us, v.isCell = true := by
  induction us generalizing l o with
  | nil => exact h
  | cons u us ih =>
    rw [put]
    refine ih (o + 1) ?_ (fun v hv => hu v (by simp [hv]))
    intro v hv
    rcases List.mem_or_eq_of_mem_set hv with h1 | rfl
    · exact h v h1
    · exact hu _ (by simp)
theorem fill_ok {ρ : Rho} {place : Nat → Option (Nat × Nat)} : ∀ {parts : List (Nat × V)} {ps : List (Nat × Value)} {cells out : List V} {cs : Array Value},
    ps.length = parts.length → (∀ (j : Nat) a b, parts[j]? = some a → ps[j]? = some b → a.1 = b.1 ∧ Rel ρ a.2 b.2) → RelL ρ cells cs.toList → (∀ v ∈ cells, v.isCell = true) → fillA place cells parts = some out →
    ∃ out', Instr.fill place cs ps = some out' ∧ RelL ρ out out'.toList ∧ (∀ v ∈ out, v.isCell = true) ∧ out.length = cells.length
  | [], ps, cells, out, cs, hl, hp, hc, hcc, h => by
    cases ps with
    | nil => simp only [fillA, Option.some.injEq] at h; subst h; exact ⟨cs, rfl, hc, hcc, rfl⟩
    | cons => simp at hl
  | (i, v) :: parts, ps, cells, out, cs, hl, hp, hc, hcc, h => by
    cases ps with
    | nil => simp at hl
    | cons q ps =>
      obtain ⟨e1, hr⟩ := hp 0 (i, v) q rfl rfl
      obtain ⟨i', x⟩ := q
      simp only at e1 hr
      subst e1
      simp only [fillA] at h
      split at h
      · cases h
      rename_i off size hpl
      split at h
      case isFalse => cases h
      rename_i hcond
      obtain ⟨h1, h2, h3⟩ := hcond
      have hu : ∀ v' ∈ v.cells, v'.isCell = true := fun v' hv' => (List.all_eq_true.1 h3) v' hv'
      have hrel := put_rel hr.cells off hc
      have hx : x.cells.size = size := by have := hr.cells.length; simp at this; omega
      have hcs : cs.size = cells.length := by have := hc.length; simpa using this
      have e2 : (x.cells.zipIdx.foldl (fun cs (c : Value × Nat) => cs.setIfInBounds (off + c.2) c.1) cs).toList = put cs.toList off x.cells.toList := by
        have := foldl_put x.cells.toList cs off 0
        rw [Nat.add_zero] at this
        rw [← this, ← Array.foldl_toList, Array.toList_zipIdx]
      obtain ⟨out', g1, g2, g3, g4⟩ := fill_ok (place := place) (parts := parts) (ps := ps) (cells := put cells off v.cells) (out := out)
        (cs := x.cells.zipIdx.foldl (fun cs (c : Value × Nat) => cs.setIfInBounds (off + c.2) c.1) cs) (by simpa using hl)
        (fun j a b ha hb => hp (j + 1) a b (by simpa using ha) (by simpa using hb)) (by rw [e2]; exact hrel) (put_cell off hcc hu) h
      refine ⟨out', ?_, g2, g3, by simpa using g4⟩
      simp only [Instr.fill, hpl]
      have : (decide (x.cells.size ≠ size) || decide (off + x.cells.size > cs.size)) = false := by simp [hx, hcs]; omega
      rw [if_neg (by simpa using this)]
      exact g1
def opBuildSlice (T : TT) (t : TypeId) (len : Nat) (parts : List (Nat × V)) (m : Mem) : Option (V × Mem) :=
  match T t with
  | some ⟨.slice e, _, _, _⟩ =>
    match T e with
    | some j => if len * j.size ≤ 16777216 then
        match fillA (fun i => some (i * j.size, j.size)) (zeros j.zero len) parts with
        | some cells => some (.sl m.length 0 len len j.size true, m ++ [⟨cells, 2⟩])
        | none => none
      else none
    | none => none
  | _ => none
theorem slice_fresh {ρ : Rho} {m : Mem} (B len c z : Nat) (L : Nat) (h : len ≤ c) (hL : c * z ≤ L) : Rel (ρ.add m.length ⟨B, 0, L, true⟩) (.sl m.length 0 len c z true) (.slice (some ⟨B, 0, none⟩) len c) := by
  simp only [Rel]
  exact ⟨⟨B, 0, L, true⟩, 0, c, Rho.add_self _ _ _, rfl, h, Nat.le_refl _, fun _ => rfl, fun _ => rfl, Nat.le_refl _, fun _ => by simpa using hL⟩
theorem buildSlice_ok (hT : TOk P T) (S : Sim ρ m w) {t : TypeId} {len : Nat} {parts : List (Nat × V)} {ps : Array (Nat × Value)} {u : V} {m' : Mem} (hl : ps.size = parts.length)
    (hp : ∀ (j : Nat) a b, parts[j]? = some a → ps.toList[j]? = some b → a.1 = b.1 ∧ Rel ρ a.2 b.2) (h : opBuildSlice T t len parts m = some (u, m')) : Made P ρ m w u m' (Instr.buildSlice t len ps) := by
  unfold opBuildSlice at h
  split at h
  case h_2 => cases h
  rename_i e _ _ _ hi
  split at h
  case h_2 => cases h
  rename_i j hj
  split at h
  case isFalse => cases h
  rename_i hsmall
  split at h
  case h_2 => cases h
  rename_i cells hfill
  obtain ⟨rfl, rfl⟩ := Prod.mk.inj (Option.some.inj h)
  obtain ⟨d, hd, hk⟩ := (hT t _ hi).under w
  simp only [TK.fits] at hk
  subst hk
  have hje := hT e j hj
  obtain ⟨z, hz, hr⟩ := hje.zeroValue w
  have hzl : z.cells.size = j.size := by have := (hr ρ).length; simp [hje.zlen] at this; exact this
  have hr0 := zeros_rel (hr ρ) len
  have hzr : RelL ρ (zeros j.zero len) ((Array.range (len * j.size)).map ((if len * j.size = 0 then #[] else z.cells)[· % (if len * j.size = 0 then #[] else z.cells).size]!)).toList := by
    by_cases h0 : len * j.size = 0
    · rw [h0]
      have : zeros j.zero len = [] := by
        apply List.eq_nil_of_length_eq_zero
        simp [hje.zlen, h0]
      rw [this]; simp [RelL]
    · rw [if_neg h0, range_map_zero _ _ (.inl (by rw [hzl]; intro e; rw [e] at h0; simp at h0))]
      have e2 : z.cells.toList.length = j.size := by simpa using hzl
      rw [e2] at hr0 ⊢
      exact hr0
  obtain ⟨out', g1, g2, g3, g4⟩ := fill_ok (parts := parts) (ps := ps.toList) (by simpa using hl) hp hzr (zeros_cell hje.zcell len) hfill
  have hol : out'.size = len * j.size := by
    have := g2.length
    simp [hje.zlen] at this g4
    omega
  have hA := S.alloc (w' := { w with heap := w.heap.push (.cells out' e) }) (arr := out') (ty := e) g2 g3 (fun j x hx => by simpa using hx) rfl rfl rfl rfl
  refine ⟨_, .slice (some ⟨w.heap.size, 0, none⟩) len len, _, ?_, slice_fresh _ _ _ _ _ (Nat.le_refl _) (by omega), hA.1, hA.2⟩
  unfold Instr.buildSlice
  simp only [Sem.run_bind, hd, Result.andThen_ok, hje.sizeOf w]
  rw [if_neg (by omega)]
  by_cases h0 : len * j.size = 0
  · simp only [h0, if_true] at g1
    simp [h0, newRow] at g1 ⊢
    rw [g1]
    simp
  · simp only [if_neg h0] at g1
    simp [h0, hz, newRow] at g1 ⊢
    rw [g1]
    simp
end Go.Proofs.YtefjnnghfloddaaGreat.Abs

/- The operations on slices: make, slice, append, copy, len; addresses of elements and fields. -/
namespace Go.Proofs.YtefjnnghfloddaaGreat.Abs
set_option linter.unusedVariables false
set_option linter.unusedSimpArgs false
variable {P : Program} {T : TT} {ρ : Rho} {m : Mem} {w : World}
theorem wrap64_in {n : Int} (h0 : -9223372036854775808 ≤ n) (h1 : n ≤ 9223372036854775807) : IntKind.i64.wrap n = n := by
  have e1 : (2 : Int) ^ 64 = 18446744073709551616 := rfl
  have e2 : (2 : Int) ^ (64 - 1) = 9223372036854775808 := rfl
  simp only [IntKind.wrap, IntKind.bits, IntKind.signed, Bool.true_and, e1, e2, decide_eq_true_eq]
  split <;> omega
def sliceCells (z : Nat) (v : V) (n : Nat) (m : Mem) : Option (List V) :=
  if n = 0 then some [] else
  match v with
  | .sl b o len c z' ex =>
    if z' = z ∧ n ≤ len then
      match m[b]? with
      | some k => if k.st ≠ 0 ∧ o + n * z ≤ k.cells.length then some ((k.cells.drop o).take (n * z)) else none
      | none => none
    else none
  | _ => none
def V.len : V → Option Nat
  | .nils => some 0
  | .sle => some 0
  | .sl _ _ n _ _ _ => some n
  | _ => none
theorem take_drop_cells {ρ : Rho} {m : Mem} {w : World} (S : Sim ρ m w) {b o n : Nat} {p : Pl} {k : Blk} (hp : ρ b = some p) (hk : m[b]? = some k) (hst : k.st ≠ 0) (hl : o + n ≤ k.cells.length) :
    ∃ xs, RelL ρ ((k.cells.drop o).take n) xs ∧ xs.length = n ∧ (∀ j x, xs[j]? = some x → w.cell? ⟨p.B, p.O + o + j, none⟩ = some x) ∧ (∀ x ∈ xs, x.oneCell' = true) ∧ (∀ v ∈ (k.cells.drop o).take n, v.isCell = true) := by
  have hcell := S.cell b p k hp hk hst
  obtain ⟨xs, h1, h2, h3⟩ := range_of (ρ := ρ) (w := w) (B := p.B) ((k.cells.drop o).take n) (p.O + o) (fun j v hv => by
    have hj : j < n := by
      rcases Nat.lt_or_ge j n with h | h
      · exact h
      · rw [List.getElem?_eq_none (by simp; omega)] at hv; cases hv
    rw [List.getElem?_take_of_lt hj, List.getElem?_drop] at hv
    have := hcell (o + j) v hv
    rwa [show p.O + (o + j) = p.O + o + j by omega] at this)
  refine ⟨xs, h1, by rw [h1.length]; simp; omega, h2, h3, ?_⟩
  intro v hv
  obtain ⟨j, hj⟩ := List.mem_iff_getElem?.1 hv
  have hjn : j < n := by
    rcases Nat.lt_or_ge j n with h | h
    · exact h
    · rw [List.getElem?_eq_none (by simp; omega)] at hj; cases hj
  rw [List.getElem?_take_of_lt hjn, List.getElem?_drop] at hj
  exact (hcell _ v hj).1
theorem sliceCells_ok (S : Sim ρ m w) {z n : Nat} {v : V} {x : Value} {l : List V} (r : Rel ρ v x) (h : sliceCells z v n m = some l) :
    ∃ xs, RelL ρ l xs ∧ xs.length = n * z ∧ (∀ x ∈ xs, x.oneCell' = true) ∧ (∀ v ∈ l, v.isCell = true) ∧ (∀ w1 : World, w1.heap = w.heap → ∀ N, v.len = some N → (Builtin.firstCells z n x).run P w1 = .ok xs.toArray w1) ∧
      (∀ b o len c z' ex p, v = .sl b o len c z' ex → ρ b = some p → ∀ j y, xs[j]? = some y → w.cell? ⟨p.B, p.O + o + j, none⟩ = some y) := by
  unfold sliceCells at h
  split at h
  · rename_i h0
    obtain rfl := Option.some.inj h
    refine ⟨[], by simp [RelL], by simp [h0], by simp, by simp, ?_, by simp⟩
    intro w1 _ N hN
    cases v <;> simp only [V.len] at hN
    case nils => simp only [Rel] at r; subst r; simp [Builtin.firstCells]
    case sle => simp only [Rel] at r; obtain ⟨a, rfl⟩ := r; simp [Builtin.firstCells, h0, loadCells, loadCellsFrom]
    case sl =>
      simp only [Rel] at r
      obtain ⟨p, Q, c', _, rfl, _⟩ := r
      simp [Builtin.firstCells, h0, loadCells, loadCellsFrom]
    all_goals cases hN
  · split at h
    case h_2 => cases h
    rename_i b o len c z' ex
    split at h
    case isFalse => cases h
    rename_i hz
    obtain ⟨rfl, hlen⟩ := hz
    split at h
    case h_2 => cases h
    rename_i k hk
    split at h
    case isFalse => cases h
    rename_i hc
    obtain rfl := Option.some.inj h
    simp only [Rel] at r
    obtain ⟨p, Q, c', hp, rfl, h1, h2, h3, h4, h5, h6⟩ := r
    obtain ⟨xs, g1, g2, g3, g4, g5⟩ := take_drop_cells S hp hk hc.1 hc.2
    refine ⟨xs, g1, g2, g4, g5, ?_, ?_⟩
    · intro w1 hw1 N _
      obtain rfl : Q = p.O + o := h4 (by omega)
      exact run_firstCells_some (P := P) w1 z' n ⟨p.B, p.O + o, none⟩ len c' xs g2 (fun j v hv => by
        rw [Addr.add_mid]
        have := g3 j v hv
        simpa [World.cell?, hw1] using this)
    · rintro b1 o1 len1 c1 z1 ex1 p1 e hp1 j y hy
      cases e
      rw [hp] at hp1
      obtain rfl := Option.some.inj hp1
      exact g3 j y hy
theorem Sim.kill (S : Sim ρ m w) (b : Nat) : Sim ρ (m.set b ⟨[], 0⟩) w ∧ Step ρ m w ρ (m.set b ⟨[], 0⟩) w := by
  have g : ∀ (b' : Nat) (k : Blk), (m.set b ⟨[], 0⟩)[b']? = some k → k.st ≠ 0 → m[b']? = some k := by
    intro b' k h hst
    by_cases e : b = b'
    · subst e
      rcases Nat.lt_or_ge b m.length with hb | hb
      · rw [List.getElem?_set_self hb] at h
        obtain rfl := Option.some.inj h
        exact absurd rfl hst
      · rw [List.getElem?_eq_none (by simpa using hb)] at h; cases h
    · rwa [List.getElem?_set_ne e] at h
  refine ⟨⟨fun b' p h => by simpa using S.dom b' p h, fun b' p k h1 h2 h3 => S.cell b' p k h1 (g b' k h2 h3) h3, fun b' p k h1 h2 h3 => S.own b' p k h1 (g b' k h2 (by omega)) h3,
    fun b1 p1 k1 b2 p2 k2 h1 h2 h3 h4 h5 h6 => S.apart b1 p1 k1 b2 p2 k2 h1 (g b1 k1 h2 (by omega)) h3 h4 (g b2 k2 h5 h6) h6⟩, ⟨fun _ _ => rfl, by simp, Nat.le_refl _, ?_, rfl, rfl, rfl, fun b' k' _ hk hst => ⟨k', g b' k' hk hst, rfl⟩, fun b' p' k' hb' _ hk' _ => by rw [List.getElem?_eq_none (by simpa using hb')] at hk'; cases hk'⟩⟩
  intro B hB hno
  refine ⟨rfl, ?_⟩
  rintro ⟨b', p, k, h1, h2, h3, rfl⟩
  exact hno ⟨b', p, k, h1, g b' k h2 (by omega), h3, rfl⟩
theorem Sim.drew (S : Sim ρ m w) {w' : World} (h : w'.heap = w.heap) (h1 : w'.os = w.os) (h2 : w'.tape = w.tape) (h3 : w'.output = w.output) : Sim ρ m w' ∧ Step ρ m w ρ m w' := by
  have hc : ∀ a, w'.cell? a = w.cell? a := fun a => by simp [World.cell?, h]
  refine ⟨⟨fun b p hb => by rw [h]; exact S.dom b p hb, fun b p k a1 a2 a3 i v hv => by rw [hc]; exact S.cell b p k a1 a2 a3 i v hv, fun b p k a1 a2 a3 => by rw [h]; exact S.own b p k a1 a2 a3, S.apart⟩, ⟨fun _ _ => rfl, Nat.le_refl _, by rw [h]; exact Nat.le_refl _, fun B _ hn => ⟨by rw [h], hn⟩, h1, h2, h3, fun b k' _ hk _ => ⟨k', hk, rfl⟩, fun b p k hb _ hk _ => by rw [List.getElem?_eq_none hb] at hk; cases hk⟩⟩
def opMakeSlice (T : TT) (t : TypeId) (len cap : V) (m : Mem) : Option (V × Mem) :=
  match T t, len, cap with
  | some ⟨.slice e, _, _, _⟩, .int _ l, .int _ c =>
    match T e with
    | some j => if 0 ≤ l ∧ l ≤ c ∧ c * j.bytes ≤ 140737488355328 ∧ c ≤ 4611686018427387904 then some (.sl m.length 0 l.toNat c.toNat j.size true, m ++ [⟨zeros j.zero c.toNat, 2⟩]) else none
    | none => none
  | _, _, _ => none
theorem makeSlice_ok (hT : TOk P T) (S : Sim ρ m w) {t : TypeId} {len cap u : V} {x y : Value} {m' : Mem} (r : Rel ρ len x) (r' : Rel ρ cap y) (h : opMakeSlice T t len cap m = some (u, m')) :
    Made P ρ m w u m' (Instr.makeSlice t x y) := by
  unfold opMakeSlice at h
  split at h
  case h_2 => cases h
  rename_i e _ _ _ k l k' c hi
  split at h
  case h_2 => cases h
  rename_i j hj
  split at h
  case isFalse => cases h
  rename_i hcond
  obtain ⟨h0, h1, h2, h3⟩ := hcond
  obtain ⟨rfl, rfl⟩ := Prod.mk.inj (Option.some.inj h)
  simp only [Rel] at r r'
  subst r r'
  obtain ⟨d, hd, hk⟩ := (hT t _ hi).under w
  simp only [TK.fits] at hk
  subst hk
  have hje := hT e j hj
  obtain ⟨z, hz, hr⟩ := hje.zeroValue w
  obtain ⟨f, hf, hb, hs⟩ := hje.typeInfo w
  have hzl : z.cells.size = j.size := by have := (hr ρ).length; simp [hje.zlen] at this; exact this
  have wl : IntKind.i64.wrap l = l := wrap64_in (by omega) (by omega)
  have wc : IntKind.i64.wrap c = c := wrap64_in (by omega) (by omega)
  have hr0 := zeros_rel (hr ρ) c.toNat
  have hzr : RelL ρ (zeros j.zero c.toNat) ((Array.range (c.toNat * j.size)).map ((if c.toNat * j.size = 0 then #[] else z.cells)[· % (if c.toNat * j.size = 0 then #[] else z.cells).size]!)).toList := by
    by_cases h0 : c.toNat * j.size = 0
    · rw [h0]
      have : zeros j.zero c.toNat = [] := by
        apply List.eq_nil_of_length_eq_zero
        simp [hje.zlen, h0]
      rw [this]; simp [RelL]
    · rw [if_neg h0, range_map_zero _ _ (.inl (by rw [hzl]; intro e; rw [e] at h0; simp at h0))]
      have e2 : z.cells.toList.length = j.size := by simpa using hzl
      rw [e2] at hr0 ⊢
      exact hr0
  have hA := S.alloc (w' := { w with heap := w.heap.push (.cells ((Array.range (c.toNat * j.size)).map ((if c.toNat * j.size = 0 then #[] else z.cells)[· % (if c.toNat * j.size = 0 then #[] else z.cells).size]!)) e) }) (ty := e) hzr (zeros_cell hje.zcell _) (fun j x hx => by rw [← Array.getElem?_toList]; exact hx) rfl rfl rfl rfl
  refine ⟨_, .slice (some ⟨w.heap.size, 0, none⟩) l.toNat c.toNat, _, ?_, slice_fresh _ _ _ _ _ (by omega) (by simp), hA.1, hA.2⟩
  have t1 : ¬ (c < 0 ∨ 281474976710656 < (j.bytes : Int) * c) := by rw [Int.mul_comm]; omega
  unfold Instr.makeSlice
  simp only [Sem.run_bind, hd, Result.andThen_ok, asInt, asIntOf, Sem.run_pure, hf, hb, wl, wc]
  have c1 : (decide (c < 0) || decide ((j.bytes : Int) * c > 2 ^ 48) || decide (l < 0) || decide (l > c)) = false := by
    simp only [Bool.or_eq_false_iff, decide_eq_false_iff_not]
    refine ⟨⟨⟨by omega, ?_⟩, by omega⟩, by omega⟩
    have e48 : (2 : Int) ^ 48 = 281474976710656 := rfl
    rw [Int.mul_comm, e48]; omega
  rw [c1]
  have hsz := hje.sizeOf
  by_cases h0 : c.toNat * j.size = 0
  · simp [h0, newRow, hsz]
  · simp [h0, hz, newRow, hsz]
def optInt : Option V → Option (Option Int)
  | none => some none
  | some (.int _ n) => some (some n)
  | some _ => none
def opSlice (T : TT) (t : TypeId) (v : V) (lo hi mx : Option V) : Option V :=
  match optInt lo, optInt hi, optInt mx with
  | some lo, some hi, some mx =>
    match v, T t with
    | .str s, some ⟨.string, _, _, _⟩ =>
      if mx = none ∧ 0 ≤ lo.getD 0 ∧ lo.getD 0 ≤ hi.getD s.size ∧ hi.getD s.size ≤ s.size then some (.str (s.extract (lo.getD 0).toNat (hi.getD s.size).toNat)) else none
    | .nils, some ⟨.slice e, _, _, _⟩ =>
      if (T e).isSome ∧ lo.getD 0 = 0 ∧ hi.getD 0 = 0 ∧ mx.getD 0 = 0 ∧ (mx.isSome → hi.isSome) then some .nils else none
    | .sle, some ⟨.slice e, _, _, _⟩ =>
      if (T e).isSome ∧ lo.getD 0 = 0 ∧ hi.getD 0 = 0 ∧ mx.getD 0 = 0 ∧ (mx.isSome → hi.isSome) then some .sle else none
    | .sl b o n c z ex, some ⟨.slice e, _, _, _⟩ =>
      match T e with
      | some j =>
        if j.size = z ∧ (mx.isSome → hi.isSome) ∧ 0 ≤ lo.getD 0 ∧ lo.getD 0 ≤ hi.getD n ∧ hi.getD n ≤ mx.getD c ∧ mx.getD c ≤ c then
          some (.sl b (o + (lo.getD 0).toNat * z) (hi.getD n - lo.getD 0).toNat (mx.getD c - lo.getD 0).toNat z (ex || mx.isSome)) else none
      | none => none
    | _, _ => none
  | _, _, _ => none
theorem sliceBound_ok {k : IntKind} {n : Int} {y : Nat} {code : BoundsCode} (h0 : 0 ≤ n) (h1 : n ≤ y) (w : World) : (Instr.sliceBound (.int k n) y code).run P w = .ok n.toNat w := by
  simp [Instr.sliceBound, asIntOf, h0, h1]
theorem optInt_some {v : Option V} {n : Int} (h : optInt v = some (some n)) : ∃ k, v = some (.int k n) := by
  cases v with
  | none => simp [optInt] at h
  | some v => cases v <;> simp [optInt] at h; rename_i k q; subst h; exact ⟨k, rfl⟩
theorem optInt_none {v : Option V} (h : optInt v = some none) : v = none := by
  cases v with
  | none => rfl
  | some v => cases v <;> simp [optInt] at h
theorem bounds_ok {lo hi mx : Option V} {lo' hi' mx' : Option Value} {l' h' q' : Option Int} (el : optInt lo = some l') (eh : optInt hi = some h') (eq : optInt mx = some q')
    (rl : ∀ v, lo = some v → ∃ x, lo' = some x ∧ Rel ρ v x) (rh : ∀ v, hi = some v → ∃ x, hi' = some x ∧ Rel ρ v x) (rq : ∀ v, mx = some v → ∃ x, mx' = some x ∧ Rel ρ v x)
    (nl : lo = none → lo' = none) (nh : hi = none → hi' = none) (nq : mx = none → mx' = none)
    {len cap : Nat} (hmx : q'.isSome → h'.isSome) (h0 : 0 ≤ l'.getD 0) (h1 : l'.getD 0 ≤ h'.getD len) (h2 : h'.getD len ≤ q'.getD cap) (h3 : q'.getD cap ≤ cap) (isS : Bool) (w : World) :
    (Instr.sliceBounds isS len cap lo' hi' mx').run P w = .ok ((l'.getD 0).toNat, (h'.getD len).toNat, (q'.getD cap).toNat) w := by
  have low : (l' = none ∧ lo' = none) ∨ ∃ k n, l' = some n ∧ lo' = some (.int k n) := by
    cases l' with
    | none => exact .inl ⟨rfl, nl (optInt_none el)⟩
    | some n =>
      obtain ⟨k, rfl⟩ := optInt_some el
      obtain ⟨x, rfl, r⟩ := rl _ rfl
      simp only [Rel] at r
      subst r
      exact .inr ⟨k, n, rfl, rfl⟩
  have high : (h' = none ∧ hi' = none) ∨ ∃ k n, h' = some n ∧ hi' = some (.int k n) := by
    cases h' with
    | none => exact .inl ⟨rfl, nh (optInt_none eh)⟩
    | some n =>
      obtain ⟨k, rfl⟩ := optInt_some eh
      obtain ⟨x, rfl, r⟩ := rh _ rfl
      simp only [Rel] at r
      subst r
      exact .inr ⟨k, n, rfl, rfl⟩
  have top : (q' = none ∧ mx' = none) ∨ ∃ k n, q' = some n ∧ mx' = some (.int k n) := by
    cases q' with
    | none => exact .inl ⟨rfl, nq (optInt_none eq)⟩
    | some n =>
      obtain ⟨k, rfl⟩ := optInt_some eq
      obtain ⟨x, rfl, r⟩ := rq _ rfl
      simp only [Rel] at r
      subst r
      exact .inr ⟨k, n, rfl, rfl⟩
  clear el eh eq rl rh rq nl nh nq
  unfold Instr.sliceBounds
  rcases top with ⟨rfl, rfl⟩ | ⟨k2, n2, rfl, rfl⟩ <;> rcases high with ⟨rfl, rfl⟩ | ⟨k1, n1, rfl, rfl⟩ <;> rcases low with ⟨rfl, rfl⟩ | ⟨k0, n0, rfl, rfl⟩
  all_goals simp only [Option.getD_none, Option.getD_some, Option.isSome_none, Option.isSome_some, Bool.false_eq_true, imp_false, not_true_eq_false, forall_const] at hmx h0 h1 h2 h3 ⊢
  · simp
  · simp only [Sem.run_bind, Sem.run_pure, Result.andThen_ok]
    rw [sliceBound_ok (by omega) (by omega)]; simp
  · simp only [Sem.run_bind, Sem.run_pure, Result.andThen_ok]
    rw [sliceBound_ok (by omega) (by omega)]; simp
  · simp only [Sem.run_bind, Sem.run_pure, Result.andThen_ok]
    rw [sliceBound_ok (by omega) (by omega)]
    simp only [Result.andThen_ok]
    rw [sliceBound_ok (by omega) (by omega)]; simp
  · simp only [Sem.run_bind, Sem.run_pure, Result.andThen_ok]
    rw [sliceBound_ok (by omega) (by omega)]
    simp only [Result.andThen_ok]
    rw [sliceBound_ok (by omega) (by omega)]; simp
  · simp only [Sem.run_bind, Sem.run_pure, Result.andThen_ok]
    rw [sliceBound_ok (by omega) (by omega)]
    simp only [Result.andThen_ok]
    rw [sliceBound_ok (by omega) (by omega)]
    simp only [Result.andThen_ok]
    rw [sliceBound_ok (by omega) (by omega)]; simp
theorem slice_ok (hT : TOk P T) {t : TypeId} {v u : V} {x : Value} {lo hi mx : Option V} {lo' hi' mx' : Option Value} (r : Rel ρ v x)
    (rl : ∀ v, lo = some v → ∃ x, lo' = some x ∧ Rel ρ v x) (rh : ∀ v, hi = some v → ∃ x, hi' = some x ∧ Rel ρ v x) (rq : ∀ v, mx = some v → ∃ x, mx' = some x ∧ Rel ρ v x)
    (nl : lo = none → lo' = none) (nh : hi = none → hi' = none) (nq : mx = none → mx' = none) (h : opSlice T t v lo hi mx = some u) :
    ∃ y, (Instr.sliceAt t x lo' hi' mx').run P w = .ok y w ∧ Rel ρ u y := by
  unfold opSlice at h
  split at h
  case h_2 => cases h
  rename_i l' h' q' el eh eq
  split at h
  · rename_i s _ _ _ hi
    split at h
    case isFalse => cases h
    rename_i hc
    obtain ⟨rfl, h0, h1, h2⟩ := hc
    obtain rfl := Option.some.inj h
    simp only [Rel] at r
    subst r
    obtain ⟨d, hd, hk⟩ := (hT t _ hi).under w
    simp only [TK.fits] at hk
    subst hk
    have hb := bounds_ok (P := P) (w := w) (len := s.size) (cap := s.size) el eh eq rl rh rq nl nh nq (by simp) h0 h1 (by simpa using h2) (by simp) false
    refine ⟨_, ?_, by simp only [Rel]; rfl⟩
    simp only [Instr.sliceAt, Sem.run_bind, hd, Result.andThen_ok, Instr.slice]
    have e1 : mx' = none := nq (optInt_none eq)
    subst e1
    simp [hb]
  · rename_i e _ _ _ hi
    split at h
    case isFalse => cases h
    rename_i hc
    obtain ⟨hT2, h0, h1, h2, h3⟩ := hc
    obtain rfl := Option.some.inj h
    simp only [Rel] at r
    subst r
    obtain ⟨d, hd, hk⟩ := (hT t _ hi).under w
    simp only [TK.fits] at hk
    subst hk
    obtain ⟨j, hj⟩ := Option.isSome_iff_exists.1 hT2
    have hb := bounds_ok (P := P) (w := w) (len := 0) (cap := 0) el eh eq rl rh rq nl nh nq h3 (by omega) (by simp; omega) (by simp; omega) (by simp; omega) true
    refine ⟨.slice none 0 0, ?_, by simp only [Rel]⟩
    simp only [Instr.sliceAt, Sem.run_bind, hd, Result.andThen_ok, Instr.slice, hb, (hT e j hj).sizeOf]
    simp only [Int.natCast_zero] at *
    simp [h0, h1, h2]
  · rename_i e _ _ _ hi
    split at h
    case isFalse => cases h
    rename_i hc
    obtain ⟨hT2, h0, h1, h2, h3⟩ := hc
    obtain rfl := Option.some.inj h
    simp only [Rel] at r
    obtain ⟨a, rfl⟩ := r
    obtain ⟨d, hd, hk⟩ := (hT t _ hi).under w
    simp only [TK.fits] at hk
    subst hk
    obtain ⟨j, hj⟩ := Option.isSome_iff_exists.1 hT2
    have hb := bounds_ok (P := P) (w := w) (len := 0) (cap := 0) el eh eq rl rh rq nl nh nq h3 (by omega) (by simp; omega) (by simp; omega) (by simp; omega) true
    refine ⟨.slice (some a) 0 0, ?_, by simp only [Rel]; exact ⟨a, rfl⟩⟩
    simp only [Instr.sliceAt, Sem.run_bind, hd, Result.andThen_ok, Instr.slice, hb, (hT e j hj).sizeOf]
    simp only [Int.natCast_zero] at *
    simp [h0, h1, h2]
  · rename_i b o n c z ex e _ _ _ hi
    split at h
    case h_2 => cases h
    rename_i j hj
    split at h
    case isFalse => cases h
    rename_i hc
    obtain ⟨hz, h3, h0, h1, h2, h4⟩ := hc
    obtain rfl := Option.some.inj h
    simp only [Rel] at r
    obtain ⟨p, Q, c', hp, rfl, g1, g2, g3, g4, g5, g6⟩ := r
    obtain ⟨d, hd, hk⟩ := (hT t _ hi).under w
    simp only [TK.fits] at hk
    subst hk
    have hq : q'.getD (c' : Int) ≤ c' ∧ q'.getD (c : Int) ≤ q'.getD (c' : Int) ∧ (q'.isSome = true → q'.getD (c' : Int) = q'.getD (c : Int)) ∧ (q'.isSome = false → q'.getD (c' : Int) = c' ∧ q'.getD (c : Int) = c) := by
      cases q' <;> simp at * <;> omega
    have hb := bounds_ok (P := P) (w := w) (len := n) (cap := c') el eh eq rl rh rq nl nh nq h3 h0 h1 (by omega) (by omega) true
    generalize l'.getD 0 = l at *
    generalize h'.getD (n : Int) = hh at *
    obtain ⟨hq1, hq2, hq3, hq4⟩ := hq
    generalize e1 : q'.getD (c : Int) = q at *
    generalize e2 : q'.getD (c' : Int) = qr at *
    refine ⟨_, by simp only [Instr.sliceAt, Sem.run_bind, hd, Result.andThen_ok, Instr.slice, hb, (hT e j hj).sizeOf, Sem.run_pure]; rfl, ?_⟩
    rw [hz]
    simp only [Rel]
    have hQ : ∃ Q', (if qr.toNat = l.toNat then (some ⟨p.B, Q, none⟩ : Option Addr) else (some (⟨p.B, Q, none⟩ : Addr)).map (fun x : Addr => x.add (l.toNat * z))) = some ⟨p.B, Q', none⟩ ∧ (Q' = Q ∧ qr.toNat = l.toNat ∨ Q' = Q + l.toNat * z) := by
      split
      · rename_i e; exact ⟨Q, rfl, .inl ⟨rfl, e⟩⟩
      · exact ⟨Q + l.toNat * z, by simp [Addr.add_mid], .inr rfl⟩
    obtain ⟨Q', hQ1, hQ2⟩ := hQ
    have hex : (ex || q'.isSome) = true → (qr - l).toNat = (q - l).toNat := by
      intro hh
      cases hqs : q'.isSome with
      | true => rw [hq3 hqs]
      | false =>
        simp only [hqs, Bool.or_false] at hh
        have := g3 hh
        have := hq4 hqs
        omega
    refine ⟨p, Q', (qr - l).toNat, hp, ?_, by omega, by omega, hex, ?_, ?_, ?_⟩
    · have : qr.toNat - l.toNat = (qr - l).toNat ∧ hh.toNat - l.toNat = (hh - l).toNat := by omega
      rw [hQ1, this.1, this.2]
    · intro hpos
      rcases hQ2 with ⟨_, e⟩ | e
      · omega
      · rw [e, g4 (by omega)]; omega
    · rcases hQ2 with ⟨e, _⟩ | e <;> omega
    · intro hrw
      have hr := g6 hrw
      have hle : (qr - l).toNat + l.toNat ≤ c' := by omega
      have hmul : ((qr - l).toNat + l.toNat) * z ≤ c' * z := Nat.mul_le_mul_right z hle
      rw [Nat.add_mul] at hmul
      rcases hQ2 with ⟨e, _⟩ | e <;> rw [e] <;> omega
  · cases h
end Go.Proofs.YtefjnnghfloddaaGreat.Abs

/- append, copy, len, min; addresses of elements and fields; parts of values. -/
namespace Go.Proofs.YtefjnnghfloddaaGreat.Abs
set_option linter.unusedVariables false
set_option linter.unusedSimpArgs false
variable {P : Program} {T : TT} {ρ : Rho} {m : Mem} {w : World}
def fitsIn (n bytes : Nat) : Bool := n * bytes ≤ 140737488355328 && n ≤ 4611686018427387904
def opAppend (T : TT) (t t2 : TypeId) (s x : V) (m : Mem) : Option (V × Mem) :=
  match T t, T t2, x.len with
  | some ⟨.slice e, _, _, _⟩, some ⟨.slice _, _, _, _⟩, some n =>
    match T e with
    | some j =>
      match sliceCells j.size x n m with
      | some news =>
        match s with
        | .nils => if n = 0 then some (.nils, m) else if fitsIn n j.bytes then some (.sl m.length 0 n n j.size false, m ++ [⟨news, 2⟩]) else none
        | .sle => if n = 0 then some (.sle, m) else if fitsIn n j.bytes then some (.sl m.length 0 n n j.size false, m ++ [⟨news, 2⟩]) else none
        | .sl b o len c z ex =>
          if z = j.size then
            if len + n ≤ c then
              if n = 0 then some (s, m) else
              match m[b]? with
              | some k => if k.st = 2 ∧ o + len * z + news.length ≤ k.cells.length then some (.sl b o (len + n) c z ex, m.set b ⟨put k.cells (o + len * z) news, 2⟩) else none
              | none => none
            else if fitsIn (len + n) j.bytes then
              match sliceCells z s len m with
              | some olds =>
                if ex then some (.sl m.length 0 (len + n) (len + n) z false, m ++ [⟨olds ++ news, 2⟩])
                else match m[b]? with
                | some k => if k.st = 2 then some (.sl m.length 0 (len + n) (len + n) z false, m.set b ⟨[], 0⟩ ++ [⟨olds ++ news, 2⟩]) else none
                | none => none
              | none => none
            else none
          else none
        | _ => none
      | none => none
    | none => none
  | _, _, _ => none
theorem len_rel {v : V} {x : Value} {n : Nat} (r : Rel ρ v x) (h : v.len = some n) : ∃ a c, x = .slice a n c := by
  cases v <;> simp only [V.len] at h
  case nils => simp only [Rel] at r; subst r; obtain rfl := Option.some.inj h; exact ⟨_, _, rfl⟩
  case sle => simp only [Rel] at r; obtain ⟨a, rfl⟩ := r; obtain rfl := Option.some.inj h; exact ⟨_, _, rfl⟩
  case sl => simp only [Rel] at r; obtain ⟨p, Q, c', _, rfl, _⟩ := r; obtain rfl := Option.some.inj h; exact ⟨_, _, rfl⟩
  all_goals cases h
theorem cut_cap (need old : Nat) (e : TypeId) (t : Nat) : need ≤ (Question.appendCap need old e).cut t := by simp [Question.cut]
theorem zeroCells_size (z : Array Value) (n : Nat) : (Builtin.zeroCells z n).size = n * z.size := by simp [Builtin.zeroCells]
theorem grow_run {e t t2 ty : TypeId} {j : TI} (hje : TIok P e j) {d2 : TypeDesc} (hd : P.underlying t = some (.slice e)) (hd2 : P.underlying t2 = some d2) (hd3 : ∃ e2, d2 = .slice e2) (w : World)
    {base : Option Addr} {len c : Nat} {x : Value} {a : Option Addr} {n cx : Nat} (hx : x = .slice a n cx) (olds news : List Value)
    (ho : ∀ w1 : World, w1.heap = w.heap → (Builtin.firstCells j.size len (.slice base len c)).run P w1 = .ok olds.toArray w1)
    (hn : ∀ w1 : World, w1.heap = w.heap → (Builtin.firstCells j.size n x).run P w1 = .ok news.toArray w1)
    (hg : c < len + n) (hfit : fitsIn (len + n) j.bytes = true) (hlen : olds.length = len * j.size) (hlen2 : news.length = n * j.size) :
    ∃ arr cap' w', (Builtin.append_ #[t, t2] ty #[.slice base len c, x]).run P w = .ok (.slice (some ⟨w.heap.size, 0, none⟩) (len + n) cap') w' ∧ len + n ≤ cap' ∧ w'.heap = w.heap.push (.cells arr e (0, 0)) ∧ w'.os = w.os ∧ w'.tape = w.tape ∧ w'.output = w.output ∧
      (∀ (i : Nat) y, (olds ++ news)[i]? = some y → arr[i]? = some y) ∧ arr.size = cap' * j.size := by
  simp only [fitsIn, Bool.and_eq_true, decide_eq_true_eq] at hfit
  obtain ⟨z, hz, hr⟩ := hje.zeroValue w
  obtain ⟨f, z', hf, hs, hb, hz', _⟩ := hje.info
  have hzl : z'.cells.size = j.size := by
    have e1 : z = z' := by simp [zeroValue, typeInfo, hf, hz'] at hz; exact hz.symm
    subst e1
    have := (hr (fun _ => none)).length
    simp [hje.zlen] at this; exact this
  have hfit2 := growslice_fits (bytes := j.bytes) hg (by omega)
  have h1 : ¬ (len + n ≤ c) := by omega
  have h2 : ¬ (9223372036854775807 < ((len : Int) + (n : Int))) := by omega
  have h3 : ¬ (281474976710656 < Builtin.nextslicecap (len + n) c * f.bytes) := by rw [hb]; omega
  obtain ⟨e2, rfl⟩ := hd3
  obtain ⟨q, hq0⟩ : ∃ q, q = grownCap w (len + n) c e := ⟨_, rfl⟩
  have hq : len + n ≤ q := by rw [hq0]; exact cut_cap _ _ _ _
  refine ⟨olds.toArray ++ news.toArray ++ Builtin.zeroCells z'.cells (q - (len + n)), q, { w with heap := w.heap.push (.cells (olds.toArray ++ news.toArray ++ Builtin.zeroCells z'.cells (q - (len + n))) e (0, 0)), drawn := w.drawn + 1 }, ?_, hq, rfl, rfl, rfl, rfl, ?_, ?_⟩
  · subst hx
    have ho1 := ho w.drew rfl
    have hn1 := hn w.drew rfl
    simp [Builtin.append_, run_underlying hd, run_underlying hd2, sizeOf, typeInfo, zeroValue, hf, hz', hs, Builtin.lenOf, h1, h2, h3, Question.forced, ho1, hn1, newRow]
    rw [hq0]
    refine ⟨rfl, ?_⟩
    have e3 : (olds ++ news).toArray ++ Builtin.zeroCells z'.cells (grownCap w (len + n) c e - (len + n)) = olds.toArray ++ (news.toArray ++ Builtin.zeroCells z'.cells (grownCap w (len + n) c e - (len + n))) := by
      apply Array.ext'
      simp only [Array.toList_append, List.append_assoc]
    rw [e3]
    rfl
  · intro i y hy
    rw [Array.getElem?_append_left (by
      rcases Nat.lt_or_ge i (olds ++ news).length with h | h
      · simpa using h
      · rw [List.getElem?_eq_none h] at hy; cases hy)]
    simpa using hy
  · simp [zeroCells_size, hzl, hlen, hlen2]
    rw [← Nat.add_mul, ← Nat.add_mul]
    congr 1
    omega
theorem fresh_rel {b' B len c z L : Nat} {ρ : Rho} {c' : Nat} (hc : c ≤ c') (h : len ≤ c) (hL : c' * z ≤ L) : Rel (ρ.add b' ⟨B, 0, L, true⟩) (.sl b' 0 len c z false) (.slice (some ⟨B, 0, none⟩) len c') := by
  simp only [Rel]
  exact ⟨⟨B, 0, L, true⟩, 0, c', Rho.add_self _ _ _, rfl, h, hc, by simp, fun _ => rfl, Nat.le_refl _, fun _ => by simpa using hL⟩
theorem append_ok (hT : TOk P T) (S : Sim ρ m w) {t t2 ty : TypeId} {s x u : V} {s' x' : Value} {m' : Mem} (r : Rel ρ s s') (rx : Rel ρ x x') (h : opAppend T t t2 s x m = some (u, m')) :
    Made P ρ m w u m' (Builtin.append_ #[t, t2] ty #[s', x']) := by
  unfold opAppend at h
  split at h
  case h_2 => cases h
  rename_i e _ _ _ e2 _ _ _ n ht ht2 hn
  split at h
  case h_2 => cases h
  rename_i j hj
  split at h
  case h_2 => cases h
  rename_i news hnews
  obtain ⟨d, hd, hk⟩ := (hT t _ ht).und
  simp only [TK.fits] at hk
  subst hk
  obtain ⟨d2, hd2, hk2⟩ := (hT t2 _ ht2).und
  simp only [TK.fits] at hk2
  have hje := hT e j hj
  obtain ⟨a, cx, hxe⟩ := len_rel rx hn
  obtain ⟨xs, x1, x2, x3, x4, x5, x6⟩ := sliceCells_ok (P := P) S rx hnews
  have hxr := fun w1 hw1 => x5 w1 hw1 n hn
  have hnl : news.length = n * j.size := by rw [← x2]; exact x1.length.symm
  split at h
  · -- nil
    simp only [Rel] at r
    subst r
    split at h
    · rename_i h0
      obtain ⟨rfl, rfl⟩ := Prod.mk.inj (Option.some.inj h)
      subst h0
      refine ⟨ρ, .slice none 0 0, w, ?_, by simp only [Rel], S, Step.refl _ _ _⟩
      subst hxe
      have := hxr w rfl
      simp [Builtin.append_, run_underlying hd, run_underlying hd2, hk2, hje.sizeOf, Builtin.lenOf, this]
    · rename_i h0
      split at h
      case isFalse => cases h
      rename_i hfit
      obtain ⟨rfl, rfl⟩ := Prod.mk.inj (Option.some.inj h)
      obtain ⟨arr, cap', w', g1, g2, g3, g4, g5, g6, g7, g8⟩ := grow_run (ty := ty) hje hd hd2 ⟨e2, hk2⟩ w (base := none) (len := 0) (c := 0) hxe [] xs (fun w1 _ => by simp [Builtin.firstCells]) hxr (by omega) (by simpa using hfit) (by simp) x2
      have hA := S.alloc (w' := w') (arr := arr) (ty := e) x1 x4 (fun i y hy => g7 i y (by simpa using hy)) g3 g4 g5 g6
      refine ⟨_, _, w', g1, ?_, hA.1, hA.2⟩
      rw [Nat.zero_add]
      exact fresh_rel (by omega) (Nat.le_refl _) (by omega)
  · -- empty
    simp only [Rel] at r
    obtain ⟨ea, rfl⟩ := r
    split at h
    · rename_i h0
      obtain ⟨rfl, rfl⟩ := Prod.mk.inj (Option.some.inj h)
      subst h0
      have x0 : xs = [] := List.eq_nil_of_length_eq_zero (by simpa using x2)
      refine ⟨ρ, (.slice (some ea) 0 0), w, ?_, by simp only [Rel]; exact ⟨ea, rfl⟩, S, Step.refl _ _ _⟩
      subst hxe
      have := hxr w rfl
      simp [Builtin.append_, run_underlying hd, run_underlying hd2, hk2, hje.sizeOf, Builtin.lenOf, this, x0, storeCells]
    · rename_i h0
      split at h
      case isFalse => cases h
      rename_i hfit
      obtain ⟨rfl, rfl⟩ := Prod.mk.inj (Option.some.inj h)
      obtain ⟨arr, cap', w', g1, g2, g3, g4, g5, g6, g7, g8⟩ := grow_run (ty := ty) hje hd hd2 ⟨e2, hk2⟩ w (base := some ea) (len := 0) (c := 0) hxe [] xs (fun w1 _ => by simp [Builtin.firstCells, loadCells, loadCellsFrom]) hxr (by omega) (by simpa using hfit) (by simp) x2
      have hA := S.alloc (w' := w') (arr := arr) (ty := e) x1 x4 (fun i y hy => g7 i y (by simpa using hy)) g3 g4 g5 g6
      refine ⟨_, _, w', g1, ?_, hA.1, hA.2⟩
      rw [Nat.zero_add]
      exact fresh_rel (by omega) (Nat.le_refl _) (by omega)
  · rename_i b o len c z ex
    split at h
    case isFalse => cases h
    rename_i hz
    subst hz
    have r0 := r
    simp only [Rel] at r
    obtain ⟨p, Q, c', hp, rfl, g1, g2, g3, g4, g5, g6⟩ := r
    split at h
    · rename_i hcap
      split at h
      · rename_i h0
        obtain ⟨rfl, rfl⟩ := Prod.mk.inj (Option.some.inj h)
        subst h0
        have hxs : xs = [] := List.eq_nil_of_length_eq_zero (by simpa using x2)
        refine ⟨ρ, _, w, ?_, r0, S, Step.refl _ _ _⟩
        subst hxe
        have := hxr w rfl
        have hle : len ≤ c' := by omega
        simp [Builtin.append_, run_underlying hd, run_underlying hd2, hk2, hje.sizeOf, Builtin.lenOf, this, hle, hxs, storeCells]
      · rename_i h0
        split at h
        case h_2 => cases h
        rename_i k hk
        split at h
        case isFalse => cases h
        rename_i hc
        obtain ⟨hst, hroom⟩ := hc
        obtain ⟨rfl, rfl⟩ := Prod.mk.inj (Option.some.inj h)
        obtain rfl : Q = p.O + o := g4 (by omega)
        obtain ⟨hrw, hL, arr, ty', harr, hsz⟩ := S.own b p k hp hk hst
        have hs := run_storeCells_cells (P := P) p.B (p.O + o + len * j.size) xs 0 w
          (fun i hi => by rw [cell_of_heap harr]; simp; omega) (fun i hi => frozen_of_heap harr) x3
        simp only [Nat.add_zero] at hs
        have hW := S.write (w' := w.setCells p.B (p.O + (o + len * j.size)) xs) hp hk hst x1 x4 (by omega) rfl
        refine ⟨ρ, .slice (some ⟨p.B, p.O + o, none⟩) (len + n) c', _, ?_, ?_, hW.1, hW.2⟩
        · subst hxe
          have := hxr w rfl
          have hle : len + n ≤ c' := by omega
          simp [Builtin.append_, run_underlying hd, run_underlying hd2, hk2, hje.sizeOf, Builtin.lenOf, this, hle, Addr.add_mid]
          rw [← Nat.add_assoc, hs]
          rfl
        · simp only [Rel]
          exact ⟨p, p.O + o, c', hp, rfl, hcap, g2, g3, fun _ => rfl, g5, g6⟩
    · rename_i hcap
      split at h
      case isFalse => cases h
      rename_i hfit
      split at h
      case h_2 => cases h
      rename_i olds holds
      obtain ⟨ys, y1, y2, y3, y4, y5, y6⟩ := sliceCells_ok (P := P) S r0 holds
      have hyr := fun w1 hw1 => y5 w1 hw1 len rfl
      have hol : olds.length = len * j.size := by rw [← y2]; exact y1.length.symm
      have grow : c' < len + n → ∀ {m0 : Mem}, Sim ρ m0 w → m0.length = m.length → ∃ ρ' x w', (Builtin.append_ #[t, t2] ty #[.slice (some ⟨p.B, Q, none⟩) len c', x']).run P w = .ok x w' ∧
          Rel ρ' (.sl m.length 0 (len + n) (len + n) j.size false) x ∧ Sim ρ' (m0 ++ [⟨olds ++ news, 2⟩]) w' ∧ Step ρ m0 w ρ' (m0 ++ [⟨olds ++ news, 2⟩]) w' := by
        intro hc' m0 S0 hm0
        obtain ⟨arr, cap', w', q1, q2, q3, q4, q5, q6, q7, q8⟩ := grow_run (ty := ty) hje hd hd2 ⟨e2, hk2⟩ w (base := some ⟨p.B, Q, none⟩) (len := len) (c := c') hxe ys xs hyr hxr hc' hfit y2 x2
        have hA := S0.alloc (w' := w') (arr := arr) (ty := e) (y1.append x1) (fun v hv => by
          rcases List.mem_append.1 hv with h | h
          · exact y4 v h
          · exact x4 v h) q7 q3 q4 q5 q6
        refine ⟨_, _, w', q1, ?_, hA.1, hA.2⟩
        rw [hm0]
        exact fresh_rel (by omega) (Nat.le_refl _) (by omega)
      split at h
      · rename_i hex
        obtain ⟨rfl, rfl⟩ := Prod.mk.inj (Option.some.inj h)
        obtain ⟨ρ', x, w', k1, k2, k3, k4⟩ := grow (by have := g3 hex; omega) S rfl
        exact ⟨ρ', x, w', k1, k2, k3, k4⟩
      · split at h
        case h_2 => cases h
        rename_i k hk
        split at h
        case isFalse => cases h
        rename_i hst
        obtain ⟨rfl, rfl⟩ := Prod.mk.inj (Option.some.inj h)
        by_cases hc' : len + n ≤ c'
        · -- in place
          obtain ⟨hrw, hL, arr, ty', harr, hsz⟩ := S.own b p k hp hk hst
          have hroom := g6 hrw
          have hmul : (len + n) * j.size ≤ c' * j.size := Nat.mul_le_mul_right _ hc'
          rw [Nat.add_mul] at hmul
          have hs := run_storeCells_cells (P := P) p.B (Q + len * j.size) xs 0 w
            (fun i hi => by rw [cell_of_heap harr]; simp; omega) (fun i hi => frozen_of_heap harr) x3
          simp only [Nat.add_zero] at hs
          have hcell : ∀ (i : Nat) y, ys[i]? = some y → w.cell? ⟨p.B, Q + i, none⟩ = some y := by
            intro i y hy
            have hi : i < ys.length := by
              rcases Nat.lt_or_ge i ys.length with h | h
              · exact h
              · rw [List.getElem?_eq_none h] at hy; cases hy
            have hlen : 0 < len := by
              rcases Nat.eq_zero_or_pos len with h | h
              · rw [h, Nat.zero_mul] at y2; omega
              · exact h
            obtain rfl : Q = p.O + o := g4 (by omega)
            exact y6 b o len c _ ex p rfl hp i y hy
          have hR := S.regrow (w' := w.setCells p.B (Q + olds.length) xs) (Q := Q) (L := c' * j.size) hp hk hst y1 y4 x1 x4 hcell (by omega) (by omega) rfl (st := 0) (n := 0)
          refine ⟨_, .slice (some ⟨p.B, Q, none⟩) (len + n) c', _, ?_, ?_, hR.1, hR.2⟩
          · subst hxe
            have := hxr w rfl
            simp [Builtin.append_, run_underlying hd, run_underlying hd2, hk2, hje.sizeOf, Builtin.lenOf, this, hc', Addr.add_mid, hs, hol]
          · simp only [Rel]
            exact ⟨⟨p.B, Q, c' * j.size, true⟩, Q, c', Rho.add_self _ _ _, rfl, Nat.le_refl _, hc', by simp, fun _ => rfl, Nat.le_refl _, fun _ => Nat.le_refl _⟩
        · have hK := S.kill b
          obtain ⟨ρ', x, w', k1, k2, k3, k4⟩ := grow (by omega) hK.1 (by simp)
          exact ⟨ρ', x, w', k1, k2, k3, hK.2.trans k4⟩
  · cases h
end Go.Proofs.YtefjnnghfloddaaGreat.Abs

/- copy, len, min; addresses of elements and fields; parts; arithmetic and comparison. -/
namespace Go.Proofs.YtefjnnghfloddaaGreat.Abs
set_option linter.unusedVariables false
set_option linter.unusedSimpArgs false
variable {P : Program} {T : TT} {ρ : Rho} {m : Mem} {w : World}
def opCopy (T : TT) (t : TypeId) (d s : V) (m : Mem) : Option (V × Mem) :=
  match T t, d.len, s.len with
  | some ⟨.slice e, _, _, _⟩, some a, some b =>
    match T e with
    | some j =>
      if min b a = 0 then some (.int .i64 0, m) else
      match sliceCells j.size s (min b a) m, d with
      | some cs, .sl q o len c z ex =>
        match m[q]? with
        | some k => if k.st = 2 ∧ o + cs.length ≤ k.cells.length then some (.int .i64 (min b a : Nat), m.set q ⟨put k.cells o cs, 2⟩) else none
        | none => none
      | _, _ => none
    | none => none
  | _, _, _ => none
theorem copy_ok (hT : TOk P T) (S : Sim ρ m w) {t t2 ty : TypeId} {d s u : V} {d' s' : Value} {m' : Mem} (rd : Rel ρ d d') (rs : Rel ρ s s') (h : opCopy T t d s m = some (u, m')) :
    Made P ρ m w u m' (Builtin.copy_ #[t, t2] ty #[d', s']) := by
  unfold opCopy at h
  split at h
  case h_2 => cases h
  rename_i e _ _ _ a b ht hd hs
  split at h
  case h_2 => cases h
  rename_i j hj
  obtain ⟨dd, hdd, hk⟩ := (hT t _ ht).und
  simp only [TK.fits] at hk
  subst hk
  have hje := hT e j hj
  obtain ⟨da, dc, rfl⟩ := len_rel rd hd
  obtain ⟨sa, sc, rfl⟩ := len_rel rs hs
  have hmin : Nat.min b a = min b a := rfl
  split at h
  · rename_i h0
    obtain ⟨rfl, rfl⟩ := Prod.mk.inj (Option.some.inj h)
    have hz : sliceCells j.size s 0 m = some [] := by simp [sliceCells]
    obtain ⟨xs, _, x2, _, _, x5, _⟩ := sliceCells_ok (P := P) S rs hz
    have hxs : xs = [] := List.eq_nil_of_length_eq_zero (by simpa using x2)
    have := x5 w rfl b hs
    subst hxs
    refine ⟨ρ, .int .i64 0, w, ?_, by simp only [Rel], S, Step.refl _ _ _⟩
    simp only [Builtin.copy_, Sem.run_bind, run_underlying hdd, Result.andThen_ok, Builtin.lenOf, Sem.run_pure, hje.sizeOf]
    simp [hmin, h0, this, storeCells, goInt, hdd, run_underlying hdd, hje.sizeOf]
    cases da <;> simp [storeCells]
  · rename_i h0
    split at h
    case h_2 => cases h
    rename_i cs q o len c z ex hcs
    split at h
    case h_2 => cases h
    rename_i k hk
    split at h
    case isFalse => cases h
    rename_i hc
    obtain ⟨hst, hroom⟩ := hc
    obtain ⟨rfl, rfl⟩ := Prod.mk.inj (Option.some.inj h)
    obtain ⟨xs, x1, x2, x3, x4, x5, x6⟩ := sliceCells_ok (P := P) S rs hcs
    simp only [V.len, Option.some.injEq] at hd
    subst hd
    simp only [Rel] at rd
    obtain ⟨p, Q, c', hp, hde, g1, g2, g3, g4, g5, g6⟩ := rd
    obtain rfl : Q = p.O + o := g4 (by omega)
    simp only [Value.slice.injEq] at hde
    obtain ⟨rfl, -, rfl⟩ := hde
    obtain ⟨hrw, hL, arr, ty', harr, hsz⟩ := S.own q p k hp hk hst
    have hxl : xs.length = cs.length := x1.length
    have hst2 := run_storeCells_cells (P := P) p.B (p.O + o) xs 0 w (fun i hi => by rw [cell_of_heap harr]; simp; omega) (fun i hi => frozen_of_heap harr) x3
    simp only [Nat.add_zero] at hst2
    have hW := S.write (w' := w.setCells p.B (p.O + o) xs) hp hk hst x1 x4 hroom rfl
    have := x5 w rfl b hs
    refine ⟨ρ, _, _, ?_, by simp only [Rel]; rfl, hW.1, hW.2⟩
    simp [Builtin.copy_, run_underlying hdd, Builtin.lenOf, hmin, this, hje.sizeOf, hst2, goInt]
def opLen (T : TT) (t : TypeId) (v : V) : Option V :=
  match T t, v with
  | some ⟨.slice _, _, _, _⟩, .nils => some (.int .i64 0)
  | some ⟨.slice _, _, _, _⟩, .sle => some (.int .i64 0)
  | some ⟨.slice _, _, _, _⟩, .sl _ _ n _ _ _ => some (.int .i64 n)
  | some ⟨.string, _, _, _⟩, .str s => some (.int .i64 s.size)
  | _, _ => none
theorem len_ok (hT : TOk P T) {t ty : TypeId} {v u : V} {x : Value} (r : Rel ρ v x) (h : opLen T t v = some u) : ∃ y, (Builtin.len_ #[t] ty #[x]).run P w = .ok y w ∧ Rel ρ u y := by
  unfold opLen at h
  split at h
  case h_5 => cases h
  all_goals
    rename_i ht
    obtain rfl := Option.some.inj h
    obtain ⟨d, hd, hk⟩ := (hT t _ ht).und
    simp only [TK.fits] at hk
    subst hk
    simp only [Rel] at r
    try obtain ⟨p, Q, c', hp, rfl, _⟩ := r
    try obtain ⟨a, rfl⟩ := r
    try subst r
    refine ⟨_, ?_, by simp only [Rel]; rfl⟩
    simp [Builtin.len_, run_underlying hd, goInt]
def opMin : List V → Option V
  | [.int k a, .int _ b] => some (.int k (if b < a then b else a))
  | [.int k a] => some (.int k a)
  | _ => none
theorem min_ok {l : List V} {xs : Array Value} {at' : Array TypeId} {ty : TypeId} {u : V} (r : RelL ρ l xs.toList) (h : opMin l = some u) : ∃ y, (Builtin.min_ at' ty xs).run P w = .ok y w ∧ Rel ρ u y := by
  unfold opMin at h
  split at h
  · rename_i k a k2 b
    obtain rfl := Option.some.inj h
    simp only [RelL, Rel] at r
    obtain ⟨_, _, e1, rfl, _, _, rfl, rfl, rfl⟩ := r
    refine ⟨.int k (if b < a then b else a), ?_, by simp only [Rel]⟩
    simp [Builtin.min_, e1, Builtin.min2]
  · rename_i k a
    obtain rfl := Option.some.inj h
    simp only [RelL, Rel] at r
    obtain ⟨_, _, e1, rfl, rfl⟩ := r
    refine ⟨.int k a, ?_, by simp only [Rel]⟩
    simp [Builtin.min_, e1]
  · cases h
def opMax : List V → Option V
  | [.int k a, .int _ b] => some (.int k (if a < b then b else a))
  | [.int k a] => some (.int k a)
  | _ => none
theorem max_ok {l : List V} {xs : Array Value} {at' : Array TypeId} {ty : TypeId} {u : V} (r : RelL ρ l xs.toList) (h : opMax l = some u) : ∃ y, (Builtin.max_ at' ty xs).run P w = .ok y w ∧ Rel ρ u y := by
  unfold opMax at h
  split at h
  · rename_i k a k2 b
    obtain rfl := Option.some.inj h
    simp only [RelL, Rel] at r
    obtain ⟨_, _, e1, rfl, _, _, rfl, rfl, rfl⟩ := r
    refine ⟨.int k (if a < b then b else a), ?_, by simp only [Rel]⟩
    simp [Builtin.max_, e1, Builtin.max2]
  · rename_i k a
    obtain rfl := Option.some.inj h
    simp only [RelL, Rel] at r
    obtain ⟨_, _, e1, rfl, rfl⟩ := r
    refine ⟨.int k a, ?_, by simp only [Rel]⟩
    simp [Builtin.max_, e1]
  · cases h
def opFieldAddr (T : TT) (s : TypeId) (v : V) (f : Nat) : Option V :=
  match v, T s with
  | .ptr b o, some ⟨.struct fs, _, _, _⟩ =>
    match fs[f]? with
    | some (off, ft) => match T ft with
      | some j => if j.size = 0 then none else some (.ptr b (o + off))
      | none => none
    | none => none
  | _, _ => none
theorem fields_get {gs : Array Field} {fs : List (Nat × TypeId)} (h : gs.toList.map (fun f => (f.offset, f.type)) = fs) {f off ft : Nat} (hf : fs[f]? = some (off, ft)) : ∃ g, gs[f]? = some g ∧ g.offset = off ∧ g.type = ft := by
  subst h
  simp only [List.getElem?_map, Option.map_eq_some_iff, Array.getElem?_toList] at hf
  obtain ⟨g, hg, e⟩ := hf
  simp only [Prod.mk.injEq] at e
  exact ⟨g, hg, e.1, e.2⟩
theorem fieldAddr_ok (hT : TOk P T) {s : TypeId} {f : Nat} {v u : V} {x : Value} (r : Rel ρ v x) (h : opFieldAddr T s v f = some u) : ∃ y, (Instr.fieldAt s x f).run P w = .ok y w ∧ Rel ρ u y := by
  unfold opFieldAddr at h
  split at h
  case h_2 => cases h
  rename_i b o fs _ _ _ ht
  split at h
  case h_2 => cases h
  rename_i off ft hf
  split at h
  case h_2 => cases h
  rename_i j hj
  split at h
  · cases h
  rename_i h0
  obtain rfl := Option.some.inj h
  obtain ⟨d, hd, hk⟩ := (hT s _ ht).und
  simp only [TK.fits] at hk
  obtain ⟨gs, rfl, hgs⟩ := hk
  obtain ⟨g, hg, rfl, rfl⟩ := fields_get hgs hf
  simp only [Rel] at r
  obtain ⟨p, hp, rfl⟩ := r
  refine ⟨.pointer (some ⟨p.B, p.O + (o + g.offset), none⟩), ?_, by simp only [Rel]; exact ⟨p, hp, rfl⟩⟩
  simp [Instr.fieldAt, run_underlying hd, hg, Instr.sureAddr, fieldPlace, (hT g.type j hj).sizeOf, h0, Addr.add_mid, Nat.add_assoc]
def opField (T : TT) (t : TypeId) (v : V) (f : Nat) : Option V :=
  match v, T t with
  | .agg l, some ⟨.struct fs, _, _, _⟩ =>
    match fs[f]? with
    | some (off, ft) => match T ft with
      | some j => if j.agg then some (.agg ((l.drop off).take j.size)) else l[off]?
      | none => none
    | none => none
  | _, _ => none
theorem part_ok (hT : TOk P T) {t : TypeId} {j : TI} (hj : T t = some j) {l : List V} {xs : Array Value} (r : RelL ρ l xs.toList) {off : Nat} {u : V} (h : (if j.agg then some (V.agg ((l.drop off).take j.size)) else l[off]?) = some u) :
    ∃ y, (part t xs off).run P w = .ok y w ∧ Rel ρ u y := by
  have ht := hT t j hj
  unfold part
  simp only [Sem.run_bind, ht.isAgg, Result.andThen_ok]
  split at h
  · rename_i ha
    obtain rfl := Option.some.inj h
    refine ⟨.agg (xs.extract off (off + j.size)), by simp [ha, ht.sizeOf], ?_⟩
    simp only [Rel]
    refine ⟨_, rfl, ?_⟩
    have := (r.drop off).take j.size
    simpa [List.extract_eq_take_drop] using this
  · rename_i ha
    have ha : j.agg = false := by simpa using ha
    obtain ⟨y, hy, hr⟩ := r.get off u h
    have hy : xs[off]? = some y := by simpa using hy
    exact ⟨y, by simp [ha, hy], hr⟩
theorem field_ok (hT : TOk P T) {t : TypeId} {f : Nat} {v u : V} {x : Value} (r : Rel ρ v x) (h : opField T t v f = some u) : ∃ y, (Instr.field t x f).run P w = .ok y w ∧ Rel ρ u y := by
  unfold opField at h
  split at h
  case h_2 => cases h
  rename_i l fs _ _ _ ht
  split at h
  case h_2 => cases h
  rename_i off ft hf
  split at h
  case h_2 => cases h
  rename_i j hj
  obtain ⟨d, hd, hk⟩ := (hT t _ ht).und
  simp only [TK.fits] at hk
  obtain ⟨gs, rfl, hgs⟩ := hk
  obtain ⟨g, hg, rfl, rfl⟩ := fields_get hgs hf
  simp only [Rel] at r
  obtain ⟨l', rfl, hl⟩ := r
  obtain ⟨y, hy, hr⟩ := part_ok (P := P) (w := w) hT hj hl h
  exact ⟨y, by simp [Instr.field, run_underlying hd, hg, asAgg, hy], hr⟩
def opIndexAddr (T : TT) (t : TypeId) (v ix : V) : Option V :=
  match v, ix, T t with
  | .sl b o n c z ex, .int _ i, some ⟨.slice e, _, _, _⟩ =>
    match T e with
    | some j => if z = j.size ∧ 0 ≤ i ∧ i < n then some (.ptr b (o + i.toNat * z)) else none
    | none => none
  | .ptr b o, .int _ i, some ⟨.array n e, _, _, _⟩ =>
    match T e with
    | some j => if 0 ≤ i ∧ i < n then some (.ptr b (o + i.toNat * j.size)) else none
    | none => none
  | _, _, _ => none
theorem indexAddr_ok (hT : TOk P T) {t : TypeId} {v ix u : V} {x y : Value} (r : Rel ρ v x) (ri : Rel ρ ix y) (h : opIndexAddr T t v ix = some u) : ∃ y', (Instr.indexAt t x y).run P w = .ok y' w ∧ Rel ρ u y' := by
  unfold opIndexAddr at h
  split at h
  · rename_i b o n c z ex k i e _ _ _ ht
    split at h
    case h_2 => cases h
    rename_i j hj
    split at h
    case isFalse => cases h
    rename_i hc
    obtain ⟨rfl, h0, h1⟩ := hc
    obtain rfl := Option.some.inj h
    obtain ⟨d, hd, hk⟩ := (hT t _ ht).und
    simp only [TK.fits] at hk
    subst hk
    simp only [Rel] at r ri
    subst ri
    obtain ⟨p, Q, c', hp, rfl, g1, g2, g3, g4, g5, g6⟩ := r
    obtain rfl : Q = p.O + o := g4 (by omega)
    refine ⟨.pointer (some ⟨p.B, p.O + (o + i.toNat * j.size), none⟩), ?_, by simp only [Rel]; exact ⟨p, hp, rfl⟩⟩
    simp [Instr.indexAt, asIntOf, run_underlying hd, h0, h1, (hT e j hj).sizeOf, Addr.add_mid, Nat.add_assoc]
  · rename_i b o k i n e _ _ _ ht
    split at h
    case h_2 => cases h
    rename_i j hj
    split at h
    case isFalse => cases h
    rename_i hc
    obtain ⟨h0, h1⟩ := hc
    obtain rfl := Option.some.inj h
    obtain ⟨d, hd, hk⟩ := (hT t _ ht).und
    simp only [TK.fits] at hk
    subst hk
    simp only [Rel] at r ri
    subst ri
    obtain ⟨p, hp, rfl⟩ := r
    refine ⟨.pointer (some ⟨p.B, p.O + (o + i.toNat * j.size), none⟩), ?_, by simp only [Rel]; exact ⟨p, hp, rfl⟩⟩
    simp [Instr.indexAt, asIntOf, run_underlying hd, h0, h1, (hT e j hj).sizeOf, Addr.add_mid, Nat.add_assoc, Instr.sureAddr]
  · cases h
def opIndex (T : TT) (t : TypeId) (v ix : V) : Option V :=
  match v, ix, T t with
  | .str s, .int _ i, some ⟨.string, _, _, _⟩ =>
    if 0 ≤ i then match s[i.toNat]? with
      | some b => some (.int .u8 b.toNat)
      | none => none
    else none
  | .agg l, .int _ i, some ⟨.array n e, _, _, _⟩ =>
    match T e with
    | some j => if 0 ≤ i ∧ i < n then (if j.agg then some (.agg ((l.drop (i.toNat * j.size)).take j.size)) else l[i.toNat * j.size]?) else none
    | none => none
  | _, _, _ => none
theorem index_ok (hT : TOk P T) {t : TypeId} {v ix u : V} {x y : Value} (r : Rel ρ v x) (ri : Rel ρ ix y) (h : opIndex T t v ix = some u) : ∃ y', (Instr.index t x y).run P w = .ok y' w ∧ Rel ρ u y' := by
  unfold opIndex at h
  split at h
  · rename_i s k i _ _ _ ht
    split at h
    case isFalse => cases h
    rename_i h0
    split at h
    case h_2 => cases h
    rename_i b hb
    obtain rfl := Option.some.inj h
    obtain ⟨d, hd, hk⟩ := (hT t _ ht).und
    simp only [TK.fits] at hk
    subst hk
    simp only [Rel] at r ri
    subst r ri
    refine ⟨_, ?_, by simp only [Rel]; rfl⟩
    simp [Instr.index, asIntOf, run_underlying hd, h0, hb]
  · rename_i l k i n e _ _ _ ht
    split at h
    case h_2 => cases h
    rename_i j hj
    split at h
    case isFalse => cases h
    rename_i hc
    obtain ⟨h0, h1⟩ := hc
    obtain ⟨d, hd, hk⟩ := (hT t _ ht).und
    simp only [TK.fits] at hk
    subst hk
    simp only [Rel] at r ri
    subst ri
    obtain ⟨l', rfl, hl⟩ := r
    obtain ⟨y, hy, hr⟩ := part_ok (P := P) (w := w) hT hj hl h
    exact ⟨y, by simp [Instr.index, asIntOf, run_underlying hd, h0, h1, (hT e j hj).sizeOf, hy], hr⟩
  · cases h
def cmpInt (op : BinOp) (x y : Int) : Option Bool :=
  match op with
  | .eql => some (x == y)
  | .neq => some (x != y)
  | .lss => some (x < y)
  | .leq => some (x ≤ y)
  | .gtr => some (x > y)
  | .geq => some (x ≥ y)
  | _ => none
def arInt (op : BinOp) (k : IntKind) (x y : Int) : Option Int :=
  match op with
  | .add => some (k.wrap (x + y))
  | .sub => some (k.wrap (x - y))
  | .mul => some (k.wrap (x * y))
  | .quo => if y = 0 then none else some (k.wrap (x.tdiv y))
  | .rem => if y = 0 then none else some (x.tmod y)
  | .and => some (k.wrap (BitVec.ofInt k.bits x &&& BitVec.ofInt k.bits y).toNat)
  | .or => some (k.wrap (BitVec.ofInt k.bits x ||| BitVec.ofInt k.bits y).toNat)
  | .xor => some (k.wrap (BitVec.ofInt k.bits x ^^^ BitVec.ofInt k.bits y).toNat)
  | _ => none
def eqV (T : TT) (t : TypeId) (x y : V) : Option Bool :=
  match x, y, T t with
  | .bool a, .bool b, some ⟨.bool, _, _, _⟩ => some (a == b)
  | .nils, .nils, some ⟨.slice _, _, _, _⟩ => some true
  | .sl .., .nils, some ⟨.slice _, _, _, _⟩ => some false
  | .sle, .nils, some ⟨.slice _, _, _, _⟩ => some false
  | .nils, .sl .., some ⟨.slice _, _, _, _⟩ => some false
  | .nilp, .nilp, some ⟨.ptr _, _, _, _⟩ => some true
  | .ptr .., .nilp, some ⟨.ptr _, _, _, _⟩ => some false
  | .nilp, .ptr .., some ⟨.ptr _, _, _, _⟩ => some false
  | _, _, _ => none
def strOp (op : BinOp) (x y : ByteArray) : Option Bool :=
  match op with
  | .eql => some (x.toList == y.toList)
  | .neq => some (!(x.toList == y.toList))
  | _ => none
def opBin (T : TT) (op : BinOp) (t : TypeId) (x y : V) : Option V :=
  match x, y with
  | .int k a, .int k' b =>
    match op with
    | .shl => if b < 0 then none else some (.int k (k.wrap (a * 2 ^ min b.toNat k.bits)))
    | .shr => if b < 0 then none else some (.int k (a.fdiv (2 ^ min b.toNat k.bits)))
    | _ => if k = k' then (match arInt op k a b with
        | some n => some (.int k n)
        | none => (cmpInt op a b).map .bool) else none
  | .str a, .str b => (strOp op a b).map .bool
  | x, y =>
    match op with
    | .eql => (eqV T t x y).map .bool
    | .neq => (eqV T t x y).map fun b => .bool (!b)
    | _ => none
theorem eqV_ok (hT : TOk P T) {t : TypeId} {x y : V} {x' y' : Value} {b : Bool} (rx : Rel ρ x x') (ry : Rel ρ y y') (h : eqV T t x y = some b) :
    (Op.equal t x' y').run P w = .ok b w ∧ (∀ op ox oy, (eqGuard op t ox oy x' y').run P w = .ok () w) ∧ (binOp .eql t x' y' = (do pure (.bool (← Op.equal t x' y')))) ∧ (binOp .neq t x' y' = (do pure (.bool (!(← Op.equal t x' y'))))) := by
  unfold eqV at h
  split at h
  case h_9 => cases h
  all_goals
    rename_i ht
    obtain rfl := Option.some.inj h
    obtain ⟨d, hd, hk⟩ := (hT t _ ht).und
    simp only [TK.fits] at hk
    subst hk
    simp only [Rel] at rx ry
    try obtain ⟨p, Q, c', hp, rfl, _⟩ := rx
    try obtain ⟨p, Q, c', hp, rfl, _⟩ := ry
    try obtain ⟨p, hp, rfl⟩ := rx
    try obtain ⟨p, hp, rfl⟩ := ry
    try obtain ⟨a, rfl⟩ := rx
    try subst rx
    try subst ry
    refine ⟨(show ∀ d, (Op.equalIn (d + 1) t _ _).run P w = .ok _ w from fun d => by simp [Op.equalIn, run_underlying hd]) 9999, fun op ox oy => ?_, rfl, rfl⟩
    cases op <;> simp [eqGuard]
theorem bin_ok (hT : TOk P T) {op : BinOp} {t : TypeId} {ox oy : Operand} {x y u : V} {x' y' : Value} (rx : Rel ρ x x') (ry : Rel ρ y y') (h : opBin T op t x y = some u) :
    ∃ v, (do eqGuard op t ox oy x' y'; binOp op t x' y' : Sem Value).run P w = .ok v w ∧ Rel ρ u v := by
  unfold opBin at h
  split at h
  · rename_i k a k' b
    simp only [Rel] at rx ry
    subst rx ry
    have hg : (eqGuard op t ox oy (.int k a) (.int k' b)).run P w = .ok () w := by cases op <;> simp [eqGuard]
    simp only [Sem.run_bind, hg, Result.andThen_ok]
    split at h
    · split at h
      · cases h
      rename_i hb
      obtain rfl := Option.some.inj h
      exact ⟨_, by simp [binOp, Op.shift, hb]; rfl, by simp only [Rel]⟩
    · split at h
      · cases h
      rename_i hb
      obtain rfl := Option.some.inj h
      exact ⟨_, by simp [binOp, Op.shift, hb]; rfl, by simp only [Rel]⟩
    · split at h
      case isFalse => cases h
      rename_i hk
      subst hk
      have main : ∀ v : V, (match arInt op k a b with | some n => some (V.int k n) | none => (cmpInt op a b).map .bool) = some v → op ≠ .shl → op ≠ .shr →
          ∃ v', (binOp op t (.int k a) (.int k b)).run P w = .ok v' w ∧ Rel ρ v v' := by
        intro v hv n1 n2
        have e : ∀ s : Sem Value, (if k ≠ k then stuck "BinOp: operands of different kinds" else s) = s := fun s => if_neg (by simp)
        cases op <;> simp only [arInt, cmpInt] at hv
        case quo =>
          split at hv
          · rename_i n hn
            split at hn
            · cases hn
            rename_i h0
            obtain rfl := Option.some.inj hn
            obtain rfl := Option.some.inj hv
            exact ⟨.int k (k.wrap (a.tdiv b)), by simp [binOp, Op.intDiv, h0], by simp only [Rel]⟩
          · simp at hv
        case rem =>
          split at hv
          · rename_i n hn
            split at hn
            · cases hn
            rename_i h0
            obtain rfl := Option.some.inj hn
            obtain rfl := Option.some.inj hv
            exact ⟨.int k (a.tmod b), by simp [binOp, Op.intDiv, h0], by simp only [Rel]⟩
          · simp at hv
        case shl => exact absurd rfl n1
        case shr => exact absurd rfl n2
        case add => obtain rfl := Option.some.inj hv; exact ⟨_, (show (if k ≠ k then stuck "BinOp: operands of different kinds" else Op.intArith .add k a b : Sem Value).run P w = .ok _ w from by rw [e]; rfl), by simp only [Rel]⟩
        case sub => obtain rfl := Option.some.inj hv; exact ⟨_, (show (if k ≠ k then stuck "BinOp: operands of different kinds" else Op.intArith .sub k a b : Sem Value).run P w = .ok _ w from by rw [e]; rfl), by simp only [Rel]⟩
        case mul => obtain rfl := Option.some.inj hv; exact ⟨_, (show (if k ≠ k then stuck "BinOp: operands of different kinds" else Op.intArith .mul k a b : Sem Value).run P w = .ok _ w from by rw [e]; rfl), by simp only [Rel]⟩
        case and => obtain rfl := Option.some.inj hv; exact ⟨_, (show (if k ≠ k then stuck "BinOp: operands of different kinds" else Op.intBits .and k a b : Sem Value).run P w = .ok _ w from by rw [e]; rfl), by simp only [Rel]⟩
        case or => obtain rfl := Option.some.inj hv; exact ⟨_, (show (if k ≠ k then stuck "BinOp: operands of different kinds" else Op.intBits .or k a b : Sem Value).run P w = .ok _ w from by rw [e]; rfl), by simp only [Rel]⟩
        case xor => obtain rfl := Option.some.inj hv; exact ⟨_, (show (if k ≠ k then stuck "BinOp: operands of different kinds" else Op.intBits .xor k a b : Sem Value).run P w = .ok _ w from by rw [e]; rfl), by simp only [Rel]⟩
        case eql => obtain rfl := Option.some.inj hv; exact ⟨_, (show (if k ≠ k then stuck "BinOp: operands of different kinds" else Op.intCmp .eql a b : Sem Value).run P w = .ok _ w from by rw [e]; rfl), by simp only [Rel]⟩
        case neq => obtain rfl := Option.some.inj hv; exact ⟨_, (show (if k ≠ k then stuck "BinOp: operands of different kinds" else Op.intCmp .neq a b : Sem Value).run P w = .ok _ w from by rw [e]; rfl), by simp only [Rel]⟩
        case lss => obtain rfl := Option.some.inj hv; exact ⟨_, (show (if k ≠ k then stuck "BinOp: operands of different kinds" else Op.intCmp .lss a b : Sem Value).run P w = .ok _ w from by rw [e]; rfl), by simp only [Rel]⟩
        case leq => obtain rfl := Option.some.inj hv; exact ⟨_, (show (if k ≠ k then stuck "BinOp: operands of different kinds" else Op.intCmp .leq a b : Sem Value).run P w = .ok _ w from by rw [e]; rfl), by simp only [Rel]⟩
        case gtr => obtain rfl := Option.some.inj hv; exact ⟨_, (show (if k ≠ k then stuck "BinOp: operands of different kinds" else Op.intCmp .gtr a b : Sem Value).run P w = .ok _ w from by rw [e]; rfl), by simp only [Rel]⟩
        case geq => obtain rfl := Option.some.inj hv; exact ⟨_, (show (if k ≠ k then stuck "BinOp: operands of different kinds" else Op.intCmp .geq a b : Sem Value).run P w = .ok _ w from by rw [e]; rfl), by simp only [Rel]⟩
        all_goals (simp at hv; done)
      exact main u h (by assumption) (by assumption)
  · rename_i a b
    simp only [Rel] at rx ry
    subst rx ry
    have hg : (eqGuard op t ox oy (.string a) (.string b)).run P w = .ok () w := by cases op <;> simp [eqGuard]
    simp only [Sem.run_bind, hg, Result.andThen_ok]
    cases op <;> simp only [strOp, Option.map_some, Option.map_none, Option.some.injEq] at h
    all_goals first
      | (cases h; done)
      | (subst h; exact ⟨_, by simp [binOp, Op.stringOp]; rfl, by simp only [Rel]⟩)
  · split at h
    · simp only [Option.map_eq_some_iff] at h
      obtain ⟨b, hb, rfl⟩ := h
      obtain ⟨h1, h2, h3⟩ := eqV_ok (P := P) (w := w) hT rx ry hb
      refine ⟨.bool b, ?_, by simp only [Rel]⟩
      simp only [Sem.run_bind, h2, Result.andThen_ok]
      rw [h3.1]
      simp [h1]
    · simp only [Option.map_eq_some_iff] at h
      obtain ⟨b, hb, rfl⟩ := h
      obtain ⟨h1, h2, h3⟩ := eqV_ok (P := P) (w := w) hT rx ry hb
      refine ⟨.bool (!b), ?_, by simp only [Rel]⟩
      simp only [Sem.run_bind, h2, Result.andThen_ok]
      rw [h3.2]
      simp [h1]
    · cases h
def opUn (op : UnOp) (x : V) : Option V :=
  match op, x with
  | .not, .bool b => some (.bool !b)
  | .neg, .int k n => some (.int k (k.wrap (0 - n)))
  | _, _ => none
theorem un_ok {op : UnOp} {x u : V} {x' : Value} (rx : Rel ρ x x') (h : opUn op x = some u) : ∃ v, (Op.unary op x').run P w = .ok v w ∧ Rel ρ u v := by
  unfold opUn at h
  split at h
  · obtain rfl := Option.some.inj h
    simp only [Rel] at rx
    subst rx
    exact ⟨_, by simp [Op.unary]; rfl, by simp only [Rel]⟩
  · obtain rfl := Option.some.inj h
    simp only [Rel] at rx
    subst rx
    exact ⟨_, rfl, by simp only [Rel]⟩
  · cases h
def opConv (T : TT) (s d : TypeId) (x : V) : Option V :=
  match T s, T d, x with
  | some ⟨.int _, _, _, _⟩, some ⟨.int k, _, _, _⟩, .int _ n => some (.int k (k.wrap n))
  | _, _, _ => none
theorem conv_ok (hT : TOk P T) {s d : TypeId} {x u : V} {x' : Value} (rx : Rel ρ x x') (h : opConv T s d x = some u) : ∃ v, (convert s d x').run P w = .ok v w ∧ Rel ρ u v := by
  unfold opConv at h
  split at h
  case h_2 => cases h
  rename_i k0 _ _ _ k _ _ _ k' n hs hd
  obtain rfl := Option.some.inj h
  simp only [Rel] at rx
  subst rx
  obtain ⟨d1, hd1, hk1⟩ := (hT s _ hs).und
  obtain ⟨d2, hd2, hk2⟩ := (hT d _ hd).und
  simp only [TK.fits] at hk1 hk2
  subst hk1 hk2
  exact ⟨_, by simp [convert, run_underlying hd1, run_underlying hd2, Conv.intToInt]; rfl, by simp only [Rel]⟩
end Go.Proofs.YtefjnnghfloddaaGreat.Abs

/- One operation of a region: on abstract values, and that the model's does the same. -/
namespace Go.Proofs.YtefjnnghfloddaaGreat.Abs
set_option linter.unusedVariables false
set_option linter.unusedSimpArgs false
variable {P : Program} {T : TT} {ρ : Rho} {m : Mem} {w : World}
def ofConst : Value → Option V
  | .int k n => some (.int k n)
  | .bool b => some (.bool b)
  | .string s => some (.str s)
  | .pointer none => some .nilp
  | .slice none 0 0 => some .nils
  | .nilFunc => some .nilf
  | .nilIface => some .nili
  | _ => none
theorem ofConst_rel {v : V} {x : Value} (h : ofConst x = some v) : Rel ρ v x := by
  unfold ofConst at h
  split at h <;> first | (cases h; done) | (obtain rfl := Option.some.inj h; simp only [Rel])
abbrev Env := Nat → V
def Env.upd (e : Env) (d : Option Tmp) (v : V) : Env := match d with
  | some d => fun t => if t = d then v else e t
  | none => e
def evo (e : Env) : Operand → Option V
  | .tmp t => some (e t)
  | .const v => ofConst v
  | .global _ => none
  | .func f => some (.fn f [] [])
def EnvOn (ρ : Rho) (e : Env) (a : Act) (L : List Tmp) : Prop := ∀ t ∈ L, Rel ρ (e t) (a.tmps.getD t undef)
theorem evo_rel {e : Env} {a : Act} {x : Operand} {v : V} (h : evo e x = some v) (hx : ∀ t, x = .tmp t → Rel ρ (e t) (a.tmps.getD t undef)) : Rel ρ v (a.eval x) := by
  cases x with
  | tmp t => simp only [evo, Option.some.injEq] at h; subst h; exact hx t rfl
  | const c => exact ofConst_rel h
  | global g => cases h
  | func f =>
    simp only [evo, Option.some.injEq] at h
    subst h
    simp only [Rel]
    exact ⟨#[], #[], rfl, by simp [RelL], by simp [RelL]⟩
def evs (e : Env) : List Operand → Option (List V)
  | [] => some []
  | x :: xs => match evo e x, evs e xs with
    | some v, some l => some (v :: l)
    | _, _ => none
theorem evs_rel {e : Env} {a : Act} : ∀ {xs : List Operand} {l : List V}, evs e xs = some l → (∀ t, Operand.tmp t ∈ xs → Rel ρ (e t) (a.tmps.getD t undef)) → RelL ρ l (xs.map a.eval)
  | [], l, h, _ => by simp only [evs, Option.some.injEq] at h; subst h; simp [RelL]
  | x :: xs, l, h, hx => by
    simp only [evs] at h
    split at h
    · rename_i v l' hv hl
      obtain rfl := Option.some.inj h
      simp only [List.map_cons, RelL]
      exact ⟨_, _, rfl, evo_rel hv (fun t ht => hx t (by simp [ht])), evs_rel hl (fun t ht => hx t (by simp [ht]))⟩
    · cases h
def evParts (e : Env) : List (Nat × Operand) → Option (List (Nat × V))
  | [] => some []
  | (i, x) :: xs => match evo e x, evParts e xs with
    | some v, some l => some ((i, v) :: l)
    | _, _ => none
theorem evParts_rel {e : Env} {a : Act} : ∀ {xs : List (Nat × Operand)} {l : List (Nat × V)}, evParts e xs = some l → (∀ t i, (i, Operand.tmp t) ∈ xs → Rel ρ (e t) (a.tmps.getD t undef)) →
    l.length = xs.length ∧ ∀ (j : Nat) u y, l[j]? = some u → (xs.map fun (q : Nat × Operand) => (q.1, a.eval q.2))[j]? = some y → u.1 = y.1 ∧ Rel ρ u.2 y.2
  | [], l, h, _ => by simp only [evParts, Option.some.injEq] at h; subst h; simp
  | (i, x) :: xs, l, h, hx => by
    simp only [evParts] at h
    split at h
    · rename_i v l' hv hl
      obtain rfl := Option.some.inj h
      obtain ⟨h1, h2⟩ := evParts_rel hl (fun t i ht => hx t i (by simp [ht]))
      refine ⟨by simp [h1], ?_⟩
      intro j u y hu hy
      cases j with
      | zero =>
        simp at hu hy
        subst hu hy
        exact ⟨rfl, evo_rel hv (fun t ht => hx t i (by simp [ht]))⟩
      | succ j => exact h2 j u y (by simpa using hu) (by simpa using hy)
    · cases h
def optV (e : Env) : Option Operand → Option (Option V)
  | none => some none
  | some x => (evo e x).map some
def placeOf (T : TT) (fs : List (Nat × TypeId)) (i : Nat) : Option (Nat × Nat) := match fs[i]? with
  | some (off, ft) => (T ft).map fun j => (off, j.size)
  | none => none
def opBuild (T : TT) (t : TypeId) (parts : List (Nat × V)) : Option V :=
  match T t with
  | some ⟨.struct fs, _, z, _⟩ =>
    if fs.all (fun q => (T q.2).isSome) then
      (fillA (placeOf T fs) z parts).map .agg
    else none
  | some ⟨.array n el, _, z, _⟩ =>
    match T el with
    | some j => (fillA (fun i => some (i * j.size, j.size)) z parts).map .agg
    | none => none
  | _ => none
theorem mapM_places (hT : TOk P T) (w : World) : ∀ (l : List Field), (l.all fun f => (T f.type).isSome) = true →
    (l.mapM fun f => (do pure (f.offset, ← sizeOf f.type) : Sem (Nat × Nat))).run P w = .ok (l.map fun f => (f.offset, ((T f.type).map (·.size)).getD 0)) w
  | [], _ => rfl
  | f :: l, h => by
    simp only [List.all_cons, Bool.and_eq_true] at h
    obtain ⟨j, hj⟩ := Option.isSome_iff_exists.1 h.1
    have ih := mapM_places hT w l h.2
    rw [List.mapM_cons]
    simp only [Sem.run_bind, (hT f.type j hj).sizeOf, Sem.run_pure, Result.andThen_ok, ih]
    simp [hj]
theorem build_ok (hT : TOk P T) {t : TypeId} {parts : List (Nat × V)} {ps : Array (Nat × Value)} {u : V} (hl : ps.size = parts.length)
    (hp : ∀ (j : Nat) a b, parts[j]? = some a → ps.toList[j]? = some b → a.1 = b.1 ∧ Rel ρ a.2 b.2) (h : opBuild T t parts = some u) : ∃ y, (Instr.build t ps).run P w = .ok y w ∧ Rel ρ u y := by
  unfold opBuild at h
  split at h
  · rename_i fs _ z _ ht
    split at h
    case isFalse => cases h
    rename_i hall
    simp only [Option.map_eq_some_iff] at h
    obtain ⟨out, hfill, rfl⟩ := h
    have htt := hT t _ ht
    obtain ⟨d, hd, hk⟩ := htt.und
    simp only [TK.fits] at hk
    obtain ⟨gs, rfl, hgs⟩ := hk
    obtain ⟨zv, hz, hr⟩ := htt.zeroValue w
    have hmm := mapM_places hT w gs.toList (by rw [← hgs] at hall; simpa using hall)
    have hplace : ∀ i, (gs.map fun f => (f.offset, ((T f.type).map (·.size)).getD 0))[i]? = placeOf T fs i := by
      intro i
      subst hgs
      unfold placeOf
      cases hi : gs[i]? with
      | none => simp [hi]
      | some f =>
        have hs : (T f.type).isSome = true := by
          have := (List.all_eq_true.1 hall) (f.offset, f.type) (by simp; exact ⟨f, Array.mem_of_getElem? hi, rfl, rfl⟩)
          simpa using this
        obtain ⟨j, hj⟩ := Option.isSome_iff_exists.1 hs
        simp [hi, hj]
    obtain ⟨out', g1, g2, g3, g4⟩ := fill_ok (place := placeOf T fs) (parts := parts) (ps := ps.toList) (by simpa using hl) hp (hr ρ) htt.zcell hfill
    refine ⟨.agg out', ?_, by simp only [Rel]; exact ⟨_, rfl, g2⟩⟩
    have e1 : (gs.mapM fun f => (do pure (f.offset, ← sizeOf f.type) : Sem (Nat × Nat))).run P w = .ok (gs.map fun f => (f.offset, ((T f.type).map (·.size)).getD 0)) w := by
      rw [Array.mapM_eq_mapM_toList]
      simp only [Sem.run_map, hmm, Result.andThen_ok]
      congr 1
      apply Array.ext'
      simp
    have e2 : (fun i => (gs.map fun f => (f.offset, ((T f.type).map (·.size)).getD 0))[i]?) = (placeOf T fs) := funext hplace
    unfold Instr.build
    simp only [Sem.run_bind, hz, Result.andThen_ok, run_underlying hd]
    rw [e1]
    simp only [Result.andThen_ok, e2, g1, Sem.run_pure]
  · rename_i n el _ z _ ht
    split at h
    case h_2 => cases h
    rename_i j hj
    simp only [Option.map_eq_some_iff] at h
    obtain ⟨out, hfill, rfl⟩ := h
    have htt := hT t _ ht
    obtain ⟨d, hd, hk⟩ := htt.und
    simp only [TK.fits] at hk
    subst hk
    obtain ⟨zv, hz, hr⟩ := htt.zeroValue w
    obtain ⟨out', g1, g2, g3, g4⟩ := fill_ok (place := fun i => some (i * j.size, j.size)) (parts := parts) (ps := ps.toList) (by simpa using hl) hp (hr ρ) htt.zcell hfill
    refine ⟨.agg out', ?_, by simp only [Rel]; exact ⟨_, rfl, g2⟩⟩
    unfold Instr.build
    simp only [Sem.run_bind, hz, Result.andThen_ok, run_underlying hd, (hT el j hj).sizeOf, g1, Sem.run_pure]
  · cases h
def opBuiltin (T : TT) (b : Builtin) (ts : List TypeId) (l : List V) (m : Mem) : Option (V × Mem) :=
  match b, ts, l with
  | .len, [t], [x] => (opLen T t x).map (·, m)
  | .append, [t, t2], [s, x] => opAppend T t t2 s x m
  | .copy, [t, _], [d, s] => opCopy T t d s m
  | .min, _, l => (opMin l).map (·, m)
  | .max, _, l => (opMax l).map (·, m)
  | _, _, _ => none
def opx (T : TT) (e : Env) (m : Mem) : Op → Option (V × Mem)
  | .move x | .assign x => (evo e x).map (·, m)
  | .pick c a b => match evo e c, evo e a, evo e b with
    | some (.bool t), some x, some y => some (if t then x else y, m)
    | _, _, _ => none
  | .alloc t => opAlloc T t m
  | .box _ x => (evo e x).bind fun v => opBox v m
  | .build t parts => (evParts e parts.toList).bind fun l => (opBuild T t l).map (·, m)
  | .buildSlice t len parts => (evParts e parts.toList).bind fun l => opBuildSlice T t len l m
  | .load t a => (evo e a).bind fun v => (opLoad T t v m).map (·, m)
  | .store t a x => (evo e a).bind fun v => (evo e x).bind fun u => (opStore T t v u m).map (V.undef, ·)
  | .nilCheck x => match evo e x with
    | some (.ptr b o) => some (.ptr b o, m)
    | some (.fn f a c) => some (.fn f a c, m)
    | _ => none
  | .binOp op t x y _ => (evo e x).bind fun v => (evo e y).bind fun u => (opBin T op t v u).map (·, m)
  | .unOp op _ x => (evo e x).bind fun v => (opUn op v).map (·, m)
  | .convert s d x => (evo e x).bind fun v => (opConv T s d v).map (·, m)
  | .makeFunc (.func f) first cap => (evs e first.toList).bind fun a => (evs e cap.toList).map fun c => (.fn f a c, m)
  | .makeSlice t l c => (evo e l).bind fun v => (evo e c).bind fun u => opMakeSlice T t v u m
  | .slice t x lo hi mx => (evo e x).bind fun v => (optV e lo).bind fun l => (optV e hi).bind fun h => (optV e mx).bind fun q => (opSlice T t v l h q).map (·, m)
  | .fieldAddr s x f => (evo e x).bind fun v => (opFieldAddr T s v f).map (·, m)
  | .field t x f => (evo e x).bind fun v => (opField T t v f).map (·, m)
  | .indexAddr t x i => (evo e x).bind fun v => (evo e i).bind fun u => (opIndexAddr T t v u).map (·, m)
  | .index t x i => (evo e x).bind fun v => (evo e i).bind fun u => (opIndex T t v u).map (·, m)
  | .extract x i => match evo e x with
    | some (.tup l) => (l[i]?).map (·, m)
    | _ => none
  | .call ⟨.builtin b, args, ts⟩ => (evs e args.toList).bind fun l => opBuiltin T b ts.toList l m
  | _ => none
theorem mem_looks {o : Oper} {ops : Array Oper} {t : Tmp} (h : Operand.tmp t ∈ o.op.operands) : t ∈ o.looksAt ops := by
  unfold Oper.looksAt
  refine List.mem_append_left _ (List.mem_filterMap.2 ⟨.tmp t, by simpa using h, rfl⟩)
def Does (P : Program) (ρ : Rho) (m : Mem) (w : World) (v : V) (m' : Mem) (r : Result Next) : Prop :=
  ∃ ρ' x w', (r = .ok (.value x) w' ∨ (r = .ok .skip w' ∧ x = undef)) ∧ Rel ρ' v x ∧ Sim ρ' m' w' ∧ Step ρ m w ρ' m' w'
theorem Made.does {v : V} {m' : Mem} {s : Sem Value} (h : Made P ρ m w v m' s) : Does P ρ m w v m' ((do pure (.value (← s)) : Sem Next).run P w) := by
  obtain ⟨ρ', x, w', h1, h2, h3, h4⟩ := h
  exact ⟨ρ', x, w', .inl (by simp [h1]), h2, h3, h4⟩
theorem same_does (S : Sim ρ m w) {v : V} {s : Sem Value} (h : ∃ y, s.run P w = .ok y w ∧ Rel ρ v y) : Does P ρ m w v m ((do pure (.value (← s)) : Sem Next).run P w) := by
  obtain ⟨y, h1, h2⟩ := h
  exact ⟨ρ, y, w, .inl (by simp [h1]), h2, S, Step.refl _ _ _⟩
theorem optV_rel {e : Env} {a : Act} {x : Option Operand} {v : Option V} (h : optV e x = some v) (hx : ∀ t, x = some (.tmp t) → Rel ρ (e t) (a.tmps.getD t undef)) :
    (∀ u, v = some u → ∃ y, x.map a.eval = some y ∧ Rel ρ u y) ∧ (v = none → x.map a.eval = none) := by
  cases x with
  | none => simp only [optV, Option.some.injEq] at h; subst h; simp
  | some x =>
    simp only [optV, Option.map_eq_some_iff] at h
    obtain ⟨u, hu, rfl⟩ := h
    refine ⟨?_, by simp⟩
    rintro u' hu'
    obtain rfl := Option.some.inj hu'
    exact ⟨_, rfl, evo_rel hu (fun t ht => hx t (by rw [ht]))⟩
theorem opx_ok (hT : TOk P T) (S : Sim ρ m w) {o : Oper} {ops : Array Oper} {e : Env} {a : Act} {v : V} {m' : Mem} (he : EnvOn ρ e a (o.looksAt ops)) (h : opx T e m o.op = some (v, m')) :
    Does P ρ m w v m' ((execOp a.eval o).run P w) := by
  have tm : ∀ t, Operand.tmp t ∈ o.op.operands → Rel ρ (e t) (a.tmps.getD t undef) := fun t ht => he t (mem_looks ht)
  unfold execOp
  generalize o.op = op at *
  cases op <;> simp only [opx] at h
  case move x =>
    simp only [Option.map_eq_some_iff, Prod.mk.injEq] at h
    obtain ⟨u, hu, rfl, rfl⟩ := h
    exact ⟨ρ, _, w, .inl rfl, evo_rel hu (fun t ht => tm t (by simp [Op.operands, ht])), S, Step.refl _ _ _⟩
  case assign x =>
    simp only [Option.map_eq_some_iff, Prod.mk.injEq] at h
    obtain ⟨u, hu, rfl, rfl⟩ := h
    exact ⟨ρ, _, w, .inl rfl, evo_rel hu (fun t ht => tm t (by simp [Op.operands, ht])), S, Step.refl _ _ _⟩
  case pick c x y =>
    split at h
    case h_2 => cases h
    rename_i t u u' hc hx hy
    obtain ⟨rfl, rfl⟩ := Prod.mk.inj (Option.some.inj h)
    have rc := evo_rel (ρ := ρ) (a := a) hc (fun t ht => tm t (by simp [Op.operands, ht]))
    have rx := evo_rel (ρ := ρ) (a := a) hx (fun t ht => tm t (by simp [Op.operands, ht]))
    have ry := evo_rel (ρ := ρ) (a := a) hy (fun t ht => tm t (by simp [Op.operands, ht]))
    simp only [Rel] at rc
    refine ⟨ρ, if t then a.eval x else a.eval y, w, .inl ?_, ?_, S, Step.refl _ _ _⟩
    · simp [rc, asBool]
    · cases t
      · exact ry
      · exact rx
  case alloc t => exact (alloc_ok hT S h).does
  case box t x =>
    simp only [Option.bind_eq_some_iff] at h
    obtain ⟨u, hu, h⟩ := h
    exact (box_ok S (evo_rel hu (fun t ht => tm t (by simp [Op.operands, ht]))) h).does
  case build t parts =>
    simp only [Option.bind_eq_some_iff, Option.map_eq_some_iff, Prod.mk.injEq] at h
    obtain ⟨l, hl, u, hu, rfl, rfl⟩ := h
    obtain ⟨h1, h2⟩ := evParts_rel (ρ := ρ) (a := a) hl (fun t i ht => tm t (by simp only [Op.operands]; simp; exact ⟨i, by simpa using ht⟩))
    exact same_does S (build_ok hT (by simp [h1]) (fun j x y hx hy => h2 j x y hx (by simpa using hy)) hu)
  case buildSlice t len parts =>
    simp only [Option.bind_eq_some_iff] at h
    obtain ⟨l, hl, h⟩ := h
    obtain ⟨h1, h2⟩ := evParts_rel (ρ := ρ) (a := a) hl (fun t i ht => tm t (by simp only [Op.operands]; simp; exact ⟨i, by simpa using ht⟩))
    exact (buildSlice_ok hT S (by simp [h1]) (fun j x y hx hy => h2 j x y hx (by simpa using hy)) h).does
  case load t x =>
    simp only [Option.bind_eq_some_iff, Option.map_eq_some_iff, Prod.mk.injEq] at h
    obtain ⟨u, hu, y, hy, rfl, rfl⟩ := h
    exact same_does S (load_ok hT S (evo_rel hu (fun t ht => tm t (by simp [Op.operands, ht]))) hy)
  case store t x y =>
    simp only [Option.bind_eq_some_iff, Option.map_eq_some_iff, Prod.mk.injEq] at h
    obtain ⟨u, hu, y', hy, m1, h1, rfl, rfl⟩ := h
    obtain ⟨w', g1, g2, g3⟩ := store_ok hT S (evo_rel (a := a) hu (fun t ht => tm t (by simp [Op.operands, ht]))) (evo_rel (a := a) hy (fun t ht => tm t (by simp [Op.operands, ht]))) h1
    exact ⟨ρ, undef, w', .inr ⟨by simp [g1], rfl⟩, Rel.undef _, g2, g3⟩
  case nilCheck x =>
    split at h
    · rename_i b q hx
      obtain ⟨rfl, rfl⟩ := Prod.mk.inj (Option.some.inj h)
      have rx := evo_rel (ρ := ρ) (a := a) hx (fun t ht => tm t (by simp [Op.operands, ht]))
      have rx0 := rx
      simp only [Rel] at rx
      obtain ⟨p, hp, e⟩ := rx
      exact ⟨ρ, _, w,   .inl (by simp [e]), rx0, S, Step.refl _ _ _⟩
    · rename_i f b c hx
      obtain ⟨rfl, rfl⟩ := Prod.mk.inj (Option.some.inj h)
      have rx := evo_rel (ρ := ρ) (a := a) hx (fun t ht => tm t (by simp [Op.operands, ht]))
      have rx0 := rx
      simp only [Rel] at rx
      obtain ⟨fs, cs, e, _⟩ := rx
      exact ⟨ρ, _, w,   .inl (by simp [e]), rx0, S, Step.refl _ _ _⟩
    · cases h
  case binOp op t x y t2 =>
    simp only [Option.bind_eq_some_iff, Option.map_eq_some_iff, Prod.mk.injEq] at h
    obtain ⟨u, hu, y', hy, z, hz, rfl, rfl⟩ := h
    exact same_does S (bin_ok hT (evo_rel (a := a) hu (fun t ht => tm t (by simp [Op.operands, ht]))) (evo_rel (a := a) hy (fun t ht => tm t (by simp [Op.operands, ht]))) hz)
  case unOp op t x =>
    simp only [Option.bind_eq_some_iff, Option.map_eq_some_iff, Prod.mk.injEq] at h
    obtain ⟨u, hu, z, hz, rfl, rfl⟩ := h
    exact same_does S (un_ok (evo_rel (a := a) hu (fun t ht => tm t (by simp [Op.operands, ht]))) hz)
  case convert s d x =>
    simp only [Option.bind_eq_some_iff, Option.map_eq_some_iff, Prod.mk.injEq] at h
    obtain ⟨u, hu, z, hz, rfl, rfl⟩ := h
    exact same_does S (conv_ok hT (evo_rel (a := a) hu (fun t ht => tm t (by simp [Op.operands, ht]))) hz)
  case makeFunc fn first cap =>
    cases fn <;> simp only at h
    case func f =>
      simp only [Option.bind_eq_some_iff, Option.map_eq_some_iff, Prod.mk.injEq] at h
      obtain ⟨l, hl, c, hc, rfl, rfl⟩ := h
      have r1 := evs_rel (ρ := ρ) (a := a) hl (fun t ht => tm t (by simp [Op.operands]; exact .inl (by simpa using ht)))
      have r2 := evs_rel (ρ := ρ) (a := a) hc (fun t ht => tm t (by simp [Op.operands]; exact .inr (by simpa using ht)))
      refine ⟨ρ, .func (.func f) (first.map a.eval) (cap.map a.eval), w, .inl (by simp [Instr.makeFunc]), ?_, S, Step.refl _ _ _⟩
      simp only [Rel]
      exact ⟨_, _, rfl, by simpa using r1, by simpa using r2⟩
    all_goals cases h
  case makeSlice t l c =>
    simp only [Option.bind_eq_some_iff] at h
    obtain ⟨u, hu, y', hy, h⟩ := h
    exact (makeSlice_ok hT S (evo_rel (a := a) hu (fun t ht => tm t (by simp [Op.operands, ht]))) (evo_rel (a := a) hy (fun t ht => tm t (by simp [Op.operands, ht]))) h).does
  case slice t x lo hi mx =>
    simp only [Option.bind_eq_some_iff, Option.map_eq_some_iff, Prod.mk.injEq] at h
    obtain ⟨u, hu, l, hl, hh, hhi, q, hq, z, hz, rfl, rfl⟩ := h
    obtain ⟨l1, l2⟩ := optV_rel (ρ := ρ) (a := a) hl (fun t ht => tm t (by simp [Op.operands, ht]))
    obtain ⟨h1, h2⟩ := optV_rel (ρ := ρ) (a := a) hhi (fun t ht => tm t (by simp [Op.operands, ht]))
    obtain ⟨q1, q2⟩ := optV_rel (ρ := ρ) (a := a) hq (fun t ht => tm t (by simp [Op.operands, ht]))
    exact same_does S (slice_ok hT (evo_rel (a := a) hu (fun t ht => tm t (by simp [Op.operands, ht]))) l1 h1 q1 l2 h2 q2 hz)
  case fieldAddr s x f =>
    simp only [Option.bind_eq_some_iff, Option.map_eq_some_iff, Prod.mk.injEq] at h
    obtain ⟨u, hu, z, hz, rfl, rfl⟩ := h
    exact same_does S (fieldAddr_ok hT (evo_rel (a := a) hu (fun t ht => tm t (by simp [Op.operands, ht]))) hz)
  case field t x f =>
    simp only [Option.bind_eq_some_iff, Option.map_eq_some_iff, Prod.mk.injEq] at h
    obtain ⟨u, hu, z, hz, rfl, rfl⟩ := h
    exact same_does S (field_ok hT (evo_rel (a := a) hu (fun t ht => tm t (by simp [Op.operands, ht]))) hz)
  case indexAddr t x i =>
    simp only [Option.bind_eq_some_iff, Option.map_eq_some_iff, Prod.mk.injEq] at h
    obtain ⟨u, hu, y', hy, z, hz, rfl, rfl⟩ := h
    exact same_does S (indexAddr_ok hT (evo_rel (a := a) hu (fun t ht => tm t (by simp [Op.operands, ht]))) (evo_rel (a := a) hy (fun t ht => tm t (by simp [Op.operands, ht]))) hz)
  case index t x i =>
    simp only [Option.bind_eq_some_iff, Option.map_eq_some_iff, Prod.mk.injEq] at h
    obtain ⟨u, hu, y', hy, z, hz, rfl, rfl⟩ := h
    exact same_does S (index_ok hT (evo_rel (a := a) hu (fun t ht => tm t (by simp [Op.operands, ht]))) (evo_rel (a := a) hy (fun t ht => tm t (by simp [Op.operands, ht]))) hz)
  case extract x i =>
    split at h
    case h_2 => cases h
    rename_i l hx
    simp only [Option.map_eq_some_iff, Prod.mk.injEq] at h
    obtain ⟨z, hz, rfl, rfl⟩ := h
    have rx := evo_rel (ρ := ρ) (a := a) hx (fun t ht => tm t (by simp [Op.operands, ht]))
    simp only [Rel] at rx
    obtain ⟨l', e, hl⟩ := rx
    obtain ⟨y, hy, hr⟩ := hl.get i z hz
    have hy : l'[i]? = some y := by simpa using hy
    exact same_does S ⟨y, by simp [e, Instr.extract, hy], hr⟩
  case call c =>
    obtain ⟨cal, args, ts⟩ := c
    cases cal <;> simp only at h
    case builtin b =>
      simp only [Option.bind_eq_some_iff] at h
      obtain ⟨l, hl, h⟩ := h
      have rl := evs_rel (ρ := ρ) (a := a) hl (fun t ht => tm t (by simp [Op.operands, Call.operands]; simpa using ht))
      unfold opBuiltin at h
      split at h
      · rename_i t x hts
        simp only [Option.map_eq_some_iff, Prod.mk.injEq] at h
        obtain ⟨z, hz, rfl, rfl⟩ := h
        have e1 : ts = #[t] := Array.toList_inj.1 (by simpa using hts)
        simp only [RelL] at rl
        obtain ⟨y, ys, e2, rx, rfl⟩ := rl
        have e3 : args.map a.eval = #[y] := Array.toList_inj.1 (by simpa using e2)
        subst e1
        obtain ⟨y', h1, h2⟩ := len_ok (P := P) (w := w) (ty := o.type) hT rx hz
        exact same_does S (s := Builtin.len_ #[t] o.type #[y]) ⟨y', h1, h2⟩ |> fun d => by
          simp only [resolve, e3, invoke, builtin, Sem.run_bind, Sem.run_pure, Result.andThen_ok] at d ⊢
          exact d
      · rename_i t t2 s x hts
        have e1 : ts = #[t, t2] := Array.toList_inj.1 (by simpa using hts)
        simp only [RelL] at rl
        obtain ⟨y, ys, e2, rx, y2, ys2, rfl, rx2, rfl⟩ := rl
        have e3 : args.map a.eval = #[y, y2] := Array.toList_inj.1 (by simpa using e2)
        subst e1
        have d := (append_ok (ty := o.type) hT S rx rx2 h).does
        simp only [resolve, e3, invoke, builtin, Sem.run_bind, Sem.run_pure, Result.andThen_ok] at d ⊢
        exact d
      · rename_i t t2 s x hts
        have e1 : ts = #[t, t2] := Array.toList_inj.1 (by simpa using hts)
        simp only [RelL] at rl
        obtain ⟨y, ys, e2, rx, y2, ys2, rfl, rx2, rfl⟩ := rl
        have e3 : args.map a.eval = #[y, y2] := Array.toList_inj.1 (by simpa using e2)
        subst e1
        have d := (copy_ok (t2 := t2) (ty := o.type) hT S rx rx2 h).does
        simp only [resolve, e3, invoke, builtin, Sem.run_bind, Sem.run_pure, Result.andThen_ok] at d ⊢
        exact d
      · simp only [Option.map_eq_some_iff, Prod.mk.injEq] at h
        obtain ⟨z, hz, rfl, rfl⟩ := h
        have d := same_does (P := P) S (min_ok (P := P) (w := w) (xs := args.map a.eval) (at' := ts) (ty := o.type) (by simpa using rl) hz)
        simp only [resolve, invoke, builtin, Sem.run_bind, Sem.run_pure, Result.andThen_ok] at d ⊢
        exact d
      · simp only [Option.map_eq_some_iff, Prod.mk.injEq] at h
        obtain ⟨z, hz, rfl, rfl⟩ := h
        have d := same_does (P := P) S (max_ok (P := P) (w := w) (xs := args.map a.eval) (at' := ts) (ty := o.type) (by simpa using rl) hz)
        simp only [resolve, invoke, builtin, Sem.run_bind, Sem.run_pure, Result.andThen_ok] at d ⊢
        exact d
      · cases h
    all_goals cases h
  all_goals cases h
end Go.Proofs.YtefjnnghfloddaaGreat.Abs

/- The executor of code on abstract values. -/
namespace Go.Proofs.YtefjnnghfloddaaGreat.Abs
set_option linter.unusedVariables false
set_option linter.unusedSimpArgs false
abbrev CallT := FuncId → List V → Mem → Option (V × Mem)
def stepOp (T : TT) (call : CallT) (e : Env) (m : Mem) (op : Op) : Option (V × Mem) :=
  match op with
  | .call ⟨.value f, args, _⟩ =>
    match evo e f, evs e args.toList with
    | some (.fn g first cap), some l => call g (first ++ l ++ cap) m
    | _, _ => none
  | op => opx T e m op
def wantedE (ops : Array Oper) (o : Oper) (e : Env) : Bool := match o.guard with
  | none => true
  | some (j, want) => match (ops[j]?).bind (·.dst) with
    | some d => (match e d with
      | .bool b => b == want
      | _ => false)
    | none => false
def stepW (T : TT) (call : CallT) (ops : Array Oper) (e : Env) (m : Mem) (o : Oper) : Option (V × Mem) :=
  if wantedE ops o e then stepOp T call e m o.op else some (V.undef, m)
def loadV (T : TT) (e : Env) (m : Mem) : Op → Option V
  | .load t (.tmp a) => opLoad T t (e a) m
  | _ => none
open Classical in
noncomputable def chkS (T : TT) (e : Env) (m m' : Mem) : List Op → Option (Env × Mem) → Option (Env × Mem)
  | [], r => r
  | q :: l, r => if loadV T e m q = loadV T e m' q then chkS T e m m' l r else none
theorem chkS_some {T : TT} {e : Env} {m m' : Mem} : ∀ {l : List Op} {r : Option (Env × Mem)} {x : Env × Mem}, chkS T e m m' l r = some x → r = some x ∧ ∀ q, q ∈ l → loadV T e m q = loadV T e m' q
  | [], r, x, h => ⟨h, fun q hq => by simp at hq⟩
  | q :: l, r, x, h => by
    unfold chkS at h
    split at h
    · rename_i hq
      obtain ⟨h1, h2⟩ := chkS_some h
      refine ⟨h1, fun q' h3 => ?_⟩
      rcases List.mem_cons.1 h3 with rfl | h3
      · exact hq
      · exact h2 q' h3
    · cases h
theorem chkS_of {T : TT} {e : Env} {m m' : Mem} : ∀ {l : List Op} {r : Option (Env × Mem)}, (∀ q, q ∈ l → loadV T e m q = loadV T e m' q) → chkS T e m m' l r = r
  | [], r, h => rfl
  | q :: l, r, h => by
    unfold chkS
    rw [if_pos (h q (by simp))]
    exact chkS_of fun q' h' => h q' (by simp [h'])
open Classical in
noncomputable def runOps (T : TT) (call : CallT) (chk : Nat → Bool × List Op) (ops : Array Oper) : List Nat → Env → Mem → Option (Env × Mem)
  | [], e, m => some (e, m)
  | i :: is, e, m =>
    match ops[i]? with
    | none => none
    | some o =>
      match stepW T call ops e m o with
      | none => none
      | some (v, m') => if (chk i).1 then (if m <+: m' then chkS T e m m' (chk i).2 (runOps T call chk ops is (e.upd o.dst v) m') else none) else chkS T e m m' (chk i).2 (runOps T call chk ops is (e.upd o.dst v) m')
def risky : Op → Bool
  | .store .. => true
  | .call ⟨.value _, _, _⟩ => true
  | .call ⟨.builtin .append, _, _⟩ => true
  | .call ⟨.builtin .copy, _, _⟩ => true
  | _ => false
def orEdges (acc : List Nat) : List Edge → Nat
  | [] => 0
  | e :: es => (if Region.binds .any e then 2 ^ e.on ||| acc.getD e.on 0 else 0) ||| orEdges acc es
def bef : List Oper → List Nat → List Nat
  | [], acc => acc
  | o :: os, acc => bef os (acc ++ [orEdges acc o.after.toList])
def befs (ops : Array Oper) : List Nat := bef ops.toList []
def comp (B : List Nat) (i j : Nat) : Bool := if i < j then (B.getD j 0).testBit i else (B.getD i 0).testBit j
def mpure : Op → Bool
  | .move _ | .assign _ | .pick .. | .build .. | .nilCheck _ | .binOp .. | .unOp .. | .convert .. | .makeFunc .. | .slice .. | .fieldAddr .. | .field .. | .indexAddr .. | .index .. | .extract .. => true
  | _ => false
def isStore : Op → Bool
  | .store .. => true
  | _ => false
def stabAt (ops : Array Oper) (i : Nat) : Bool := match ops[i]? with
  | some ⟨_, .load _ (.tmp a), _, _, _, none⟩ => (ops.all fun o => o.dst != some a) && (List.range ops.size).any fun j => (((ops[j]?).any fun o => isStore o.op) && !(j == i)) && !comp (befs ops) j i
  | _ => false
def pureAt (ops : Array Oper) (i : Nat) : Bool := ((ops[i]?).any fun o => mpure o.op) || stabAt ops i
def stabs (ops : Array Oper) : List Op := (List.range ops.size).filterMap fun i => if stabAt ops i then (ops[i]?).map (·.op) else none
def heavy : Op → Bool
  | .load .. => false
  | op => !mpure op
def ordOk (ops : Array Oper) (i : Nat) : Bool := !pureAt ops i && (List.range ops.size).all fun j => j == i || pureAt ops j || comp (befs ops) i j
def chkOf (draw : Bool) (ops : Array Oper) (i : Nat) : Bool × List Op :=
  (draw && ((ops[i]?).any fun o => risky o.op) && !ordOk ops i, if draw && ((ops[i]?).any fun o => heavy o.op) then stabs ops else [])
inductive Ex where
  | normal
  | ret
  | exit (id : Nat)
abbrev Run := Env → Mem → Option (Ex × Env × Mem)
noncomputable def runC (T : TT) (call : CallT) (loop : Run → Run) : Code → Run
  | .skip, e, m => some (.normal, e, m)
  | .region _ ops draw, e, m => match runOps T call (chkOf draw ops) ops (List.range ops.size) e m with
    | some (e', m') => some (.normal, e', m')
    | none => none
  | .seq a b, e, m => match runC T call loop a e m with
    | some (.normal, e', m') => runC T call loop b e' m'
    | some (x, e', m') => some (x, e', m')
    | none => none
  | .cond c a b, e, m => match evo e c with
    | some (.bool t) => if t then runC T call loop a e m else runC T call loop b e m
    | _ => none
  | .block id b, e, m => match runC T call loop b e m with
    | some (.exit j, e', m') => if j = id then some (.normal, e', m') else some (.exit j, e', m')
    | some (x, e', m') => some (x, e', m')
    | none => none
  | .loop b, e, m => loop (runC T call loop b) e m
  | .exit id, e, m => some (.exit id, e, m)
  | .ret, e, m => some (.ret, e, m)
  | _, _, _ => none
def chunkNo : FuncId := 112
def partsOf (b k : Nat) : Nat → Nat → Nat → List V
  | 0, _, _ => []
  | f + 1, o, n => if n = 0 then [] else .sl b o (min k n) (min k n) 1 true :: partsOf b k f (o + min k n) (n - min k n)
def boxAt (m : Mem) : V → Option V
  | .ptr b o => match m[b]? with
    | some k => if k.st = 0 then none else k.cells[o]?
    | none => none
  | _ => none
def IT (g : FuncId) (caps : List V) (m : Mem) : Option (List V) :=
  if g = chunkNo then match caps with
    | [p, q] => match boxAt m p, boxAt m q with
      | some (.sl b o n c 1 ex), some (.int .i64 k) => if 1 ≤ k ∧ k ≤ 17592186044416 ∧ n ≤ 17592186044416 then some (partsOf b k.toNat n o n) else none
      | some .nils, some (.int .i64 k) => if 1 ≤ k ∧ k.toNat ≤ 17592186044416 then some [] else none
      | some .sle, some (.int .i64 k) => if 1 ≤ k ∧ k.toNat ≤ 17592186044416 then some [] else none
      | _, _ => none
    | _ => none
  else none
open Classical in
noncomputable def rngR (caps : List V) (m0 : Mem) (p : Tmp) (r : Run) (e : Env) : List V → Mem → Option (Ex × Env × Mem)
  | [], m => some (.normal, e, m)
  | v :: vs, m => match r (e.upd (some p) v) m with
    | some (.normal, _, m2) => if caps.map (boxAt m2) = caps.map (boxAt m0) then rngR caps m0 p r e vs m2 else none
    | _ => none
noncomputable def rngC (r : Run) (f : Option V) (p : Tmp) (e : Env) (m : Mem) : Option (Ex × Env × Mem) := match f with
  | some (.fn g [] caps) => match IT g caps m with
    | some vs => rngR caps m p r e vs m
    | none => none
  | _ => none
noncomputable def runC2 (T : TT) (call : CallT) (loop : Run → Run) : Code → Run
  | .seq a b, e, m => match runC2 T call loop a e m with
    | some (.normal, e', m') => runC2 T call loop b e' m'
    | some (x, e', m') => some (x, e', m')
    | none => none
  | .cond c a b, e, m => match evo e c with
    | some (.bool t) => if t then runC2 T call loop a e m else runC2 T call loop b e m
    | _ => none
  | .block id b, e, m => match runC2 T call loop b e m with
    | some (.exit j, e', m') => if j = id then some (.normal, e', m') else some (.exit j, e', m')
    | some (x, e', m') => some (x, e', m')
    | none => none
  | .rangeFunc f ps a b, e, m => match ps.toList with
    | [p] => rngC (runC T call loop (.seq a b)) (evo e f) p e m
    | _ => none
  | c, e, m => runC T call loop c e m
def loopN : Nat → Run → Run
  | 0, _, _, _ => none
  | k + 1, body, e, m => match body e m with
    | some (.normal, e', m') => loopN k body e' m'
    | some (x, e', m') => some (x, e', m')
    | none => none
def resV (T : TT) (e : Env) (m : Mem) : ResultVar → Option V
  | .tmp t => some (e t)
  | .cell a t => opLoad T t (e a) m
def resVs (T : TT) (e : Env) (m : Mem) : List ResultVar → Option (List V)
  | [] => some []
  | r :: rs => match resV T e m r, resVs T e m rs with
    | some v, some l => some (v :: l)
    | _, _ => none
def packV : List V → V
  | [v] => v
  | l => .tup l
def env0 (args : List V) : Env := fun t => args.getD t V.undef
abbrev FT := FuncId → Option Func
noncomputable def runBody (T : TT) (call : CallT) (loop : Run → Run) (fn : Func) (args : List V) (m : Mem) : Option (V × Mem) :=
  match fn.body with
  | none => none
  | some c =>
    if args.length ≤ fn.ntmps then
      match runC2 T call loop c (env0 args) m with
      | some (.exit _, _, _) => none
      | some (_, e', m') => match resVs T e' m' fn.results.toList with
        | some l => some (packV l, m')
        | none => none
      | none => none
    else none
noncomputable def callF (T : TT) (F : FT) (X : CallT) : Nat → CallT
  | 0, _, _, _ => none
  | n + 1, f, args, m => match F f with
    | some fn => runBody T (callF T F X n) (loopN n) fn args m
    | none => X f args m
end Go.Proofs.YtefjnnghfloddaaGreat.Abs
