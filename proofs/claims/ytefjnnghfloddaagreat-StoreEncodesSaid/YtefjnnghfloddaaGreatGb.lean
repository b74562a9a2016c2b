/- A part of a proof of a law of the store, without conditions: its texts are: Fs Fi Fj Fk Fl Fm Fn. -/
import Derived.Test.YtefjnnghfloddaaGreatGa
import Derived.OrdersIn
import Derived.LoopNIn
import Derived.TacticsIn
import Derived.RangeFuncCalls
import Derived.RangeFuncFrom
import Derived.RangeFuncLeaves
/- No value names a block that is not there yet. -/
namespace Go.Proofs.YtefjnnghfloddaaGreat.Abs
set_option linter.unusedVariables false
set_option linter.unusedSimpArgs false
variable {P : Program} {T : TT} {ρ : Rho} {m : Mem} {w : World}
mutual
def V.bel (L : Nat) : V → Prop
  | .ptr b _ => b < L
  | .sl b _ _ _ _ _ => b < L
  | .fn _ fs cs => belL L fs ∧ belL L cs
  | .ifc _ v => v.bel L
  | .agg l => belL L l
  | .tup l => belL L l
  | _ => True
def belL (L : Nat) : List V → Prop
  | [] => True
  | v :: l => v.bel L ∧ belL L l
end
theorem belL_iff {L : Nat} {l : List V} : belL L l ↔ ∀ v ∈ l, v.bel L := by
  induction l with
  | nil => simp [belL]
  | cons v l ih => simp [belL, ih]
mutual
theorem V.bel_mono {L L' : Nat} (h : L ≤ L') : ∀ v : V, v.bel L → v.bel L'
  | .ptr b o, hv => by simp only [V.bel] at hv ⊢; omega
  | .sl b o n c z ex, hv => by simp only [V.bel] at hv ⊢; omega
  | .fn f fs cs, hv => by simp only [V.bel] at hv ⊢; exact ⟨belL_mono h fs hv.1, belL_mono h cs hv.2⟩
  | .ifc t v, hv => by simp only [V.bel] at hv ⊢; exact V.bel_mono h v hv
  | .agg l, hv => by simp only [V.bel] at hv ⊢; exact belL_mono h l hv
  | .tup l, hv => by simp only [V.bel] at hv ⊢; exact belL_mono h l hv
  | .int _ _, _ => by simp only [V.bel]
  | .bool _, _ => by simp only [V.bel]
  | .str _, _ => by simp only [V.bel]
  | .nilp, _ => by simp only [V.bel]
  | .nils, _ => by simp only [V.bel]
  | .sle, _ => by simp only [V.bel]
  | .nilf, _ => by simp only [V.bel]
  | .nili, _ => by simp only [V.bel]
theorem belL_mono {L L' : Nat} (h : L ≤ L') : ∀ l : List V, belL L l → belL L' l
  | [], _ => by simp only [belL]
  | v :: l, hl => by simp only [belL] at hl ⊢; exact ⟨V.bel_mono h v hl.1, belL_mono h l hl.2⟩
end
def Rho.res (ρ : Rho) (L : Nat) : Rho := fun b => if b < L then ρ b else none
theorem Rho.res_some {ρ : Rho} {L b : Nat} {p : Pl} : ρ.res L b = some p ↔ b < L ∧ ρ b = some p := by
  unfold Rho.res
  by_cases h : b < L <;> simp [h]
mutual
theorem Rel.res {ρ : Rho} {L : Nat} : ∀ (v : V) (x : Value), Rel ρ v x → v.bel L → Rel (ρ.res L) v x
  | .ptr b o, x, r, h => by
    simp only [Rel] at r ⊢; simp only [V.bel] at h
    obtain ⟨p, hp, e⟩ := r
    exact ⟨p, Rho.res_some.2 ⟨h, hp⟩, e⟩
  | .sl b o n c z ex, x, r, h => by
    simp only [Rel] at r ⊢; simp only [V.bel] at h
    obtain ⟨p, Q, c', hp, e⟩ := r
    exact ⟨p, Q, c', Rho.res_some.2 ⟨h, hp⟩, e⟩
  | .fn f fs cs, x, r, h => by
    simp only [Rel] at r ⊢; simp only [V.bel] at h
    obtain ⟨fs', cs', e, h1, h2⟩ := r
    exact ⟨fs', cs', e, RelL.res fs _ h1 h.1, RelL.res cs _ h2 h.2⟩
  | .ifc t v, x, r, h => by
    simp only [Rel] at r ⊢; simp only [V.bel] at h
    obtain ⟨y, e, hy⟩ := r
    exact ⟨y, e, Rel.res v _ hy h⟩
  | .agg l, x, r, h => by
    simp only [Rel] at r ⊢; simp only [V.bel] at h
    obtain ⟨l', e, hl⟩ := r
    exact ⟨l', e, RelL.res l _ hl h⟩
  | .tup l, x, r, h => by
    simp only [Rel] at r ⊢; simp only [V.bel] at h
    obtain ⟨l', e, hl⟩ := r
    exact ⟨l', e, RelL.res l _ hl h⟩
  | .int k n, x, r, h => by simpa [Rel] using r
  | .bool b, x, r, h => by simpa [Rel] using r
  | .str s, x, r, h => by simpa [Rel] using r
  | .nilp, x, r, h => by simpa [Rel] using r
  | .nils, x, r, h => by simpa [Rel] using r
  | .sle, x, r, h => by simpa [Rel] using r
  | .nilf, x, r, h => by simpa [Rel] using r
  | .nili, x, r, h => by simpa [Rel] using r
theorem RelL.res {ρ : Rho} {L : Nat} : ∀ (l : List V) (xs : List Value), RelL ρ l xs → belL L l → RelL (ρ.res L) l xs
  | [], xs, r, h => by simpa [RelL] using r
  | v :: l, xs, r, h => by
    simp only [RelL] at r ⊢; simp only [belL] at h
    obtain ⟨y, ys, e, h1, h2⟩ := r
    exact ⟨y, ys, e, Rel.res v _ h1 h.1, RelL.res l _ h2 h.2⟩
end
mutual
theorem Rel.bel0 : ∀ (v : V) (x : Value), Rel (fun _ => none) v x → v.bel 0
  | .ptr b o, x, r => by simp only [Rel] at r; obtain ⟨p, hp, _⟩ := r; cases hp
  | .sl b o n c z ex, x, r => by simp only [Rel] at r; obtain ⟨p, Q, c', hp, _⟩ := r; cases hp
  | .fn f fs cs, x, r => by simp only [Rel] at r; obtain ⟨fs', cs', e, h1, h2⟩ := r; simp only [V.bel]; exact ⟨RelL.bel0 fs _ h1, RelL.bel0 cs _ h2⟩
  | .ifc t v, x, r => by simp only [Rel] at r; obtain ⟨y, e, hy⟩ := r; simp only [V.bel]; exact Rel.bel0 v _ hy
  | .agg l, x, r => by simp only [Rel] at r; obtain ⟨l', e, hl⟩ := r; simp only [V.bel]; exact RelL.bel0 l _ hl
  | .tup l, x, r => by simp only [Rel] at r; obtain ⟨l', e, hl⟩ := r; simp only [V.bel]; exact RelL.bel0 l _ hl
  | .int _ _, _, _ => by simp only [V.bel]
  | .bool _, _, _ => by simp only [V.bel]
  | .str _, _, _ => by simp only [V.bel]
  | .nilp, _, _ => by simp only [V.bel]
  | .nils, _, _ => by simp only [V.bel]
  | .sle, _, _ => by simp only [V.bel]
  | .nilf, _, _ => by simp only [V.bel]
  | .nili, _, _ => by simp only [V.bel]
theorem RelL.bel0 : ∀ (l : List V) (xs : List Value), RelL (fun _ => none) l xs → belL 0 l
  | [], _, _ => by simp only [belL]
  | v :: l, xs, r => by
    simp only [RelL] at r; simp only [belL]
    obtain ⟨y, ys, e, h1, h2⟩ := r
    exact ⟨Rel.bel0 v _ h1, RelL.bel0 l _ h2⟩
end
def Sc (m : Mem) : Prop := ∀ k ∈ m, ∀ v ∈ k.cells, v.bel m.length
def Good (m : Mem) (v : V) (m' : Mem) : Prop := v.bel m'.length ∧ Sc m' ∧ m.length ≤ m'.length
theorem Sc.get {m : Mem} (h : Sc m) {b : Nat} {k : Blk} (hk : m[b]? = some k) {v : V} (hv : v ∈ k.cells) : v.bel m.length := h k (List.mem_of_getElem? hk) v hv
theorem Sc.new {m : Mem} (h : Sc m) {l : List V} {st : Nat} (hl : ∀ v ∈ l, v.bel (m.length + 1)) : Sc (m ++ [⟨l, st⟩]) := by
  intro k hk v hv
  simp only [List.length_append, List.length_singleton]
  rcases List.mem_append.1 hk with h1 | h1
  · exact V.bel_mono (by omega) v (h k h1 v hv)
  · simp at h1; subst h1; exact hl v hv
theorem Sc.set {m : Mem} (h : Sc m) {b : Nat} {l : List V} {st : Nat} (hl : ∀ v ∈ l, v.bel m.length) : Sc (m.set b ⟨l, st⟩) := by
  intro k hk v hv
  simp only [List.length_set]
  rcases List.mem_or_eq_of_mem_set hk with h1 | rfl
  · exact h k h1 v hv
  · exact hl v hv
theorem mem_put {α : Type} {l : List α} {o : Nat} {us : List α} {v : α} (h : v ∈ put l o us) : v ∈ l ∨ v ∈ us := by
  induction us generalizing l o with
  | nil => exact .inl h
  | cons u us ih =>
    rcases ih h with h1 | h1
    · rcases List.mem_or_eq_of_mem_set h1 with h2 | rfl
      · exact .inl h2
      · exact .inr (by simp)
    · exact .inr (by simp [h1])
theorem TOk.zero (hT : TOk P T) {t : TypeId} {i : TI} (h : T t = some i) (L : Nat) : ∀ v ∈ i.zero, v.bel L := by
  obtain ⟨f, z, _, _, _, _, hr⟩ := (hT t i h).info
  intro v hv
  exact V.bel_mono (Nat.zero_le _) v (belL_iff.1 (RelL.bel0 _ _ (hr _)) v hv)
theorem cells_bel {L : Nat} {v : V} (h : v.bel L) : ∀ u ∈ v.cells, u.bel L := by
  cases v
  case agg l => simp only [V.bel] at h; exact belL_iff.1 h
  all_goals (intro u hu; simp only [V.cells, List.mem_singleton] at hu; subst hu; exact h)
theorem good_same {m : Mem} {v : V} (h : Sc m) (hv : v.bel m.length) : Good m v m := ⟨hv, h, Nat.le_refl _⟩
theorem sliceCells_bel {z n : Nat} {v : V} {l : List V} (hs : Sc m) (h : sliceCells z v n m = some l) : ∀ u ∈ l, u.bel m.length := by
  unfold sliceCells at h
  split at h
  · obtain rfl := Option.some.inj h; simp
  · split at h
    case h_2 => cases h
    split at h
    case isFalse => cases h
    split at h
    case h_2 => cases h
    rename_i k hk
    split at h
    case isFalse => cases h
    obtain rfl := Option.some.inj h
    intro u hu
    exact hs.get hk (List.mem_of_mem_drop (List.mem_of_mem_take hu))
theorem load_good {t : TypeId} {v u : V} (hs : Sc m) (h : opLoad T t v m = some u) : u.bel m.length := by
  unfold opLoad at h
  split at h
  case h_2 => cases h
  split at h
  case h_2 => cases h
  rename_i k hk
  split at h
  · cases h
  split at h
  · split at h
    case isFalse => cases h
    obtain rfl := Option.some.inj h
    simp only [V.bel]
    exact belL_iff.2 fun x hx => hs.get hk (List.mem_of_mem_drop (List.mem_of_mem_take hx))
  · exact hs.get hk (List.mem_of_getElem? h)
theorem store_good {t : TypeId} {v u : V} {m' : Mem} (hs : Sc m) (hu : u.bel m.length) (h : opStore T t v u m = some m') : Sc m' ∧ m'.length = m.length := by
  unfold opStore at h
  split at h
  case h_2 => cases h
  split at h
  case h_2 => cases h
  rename_i k hk
  split at h
  case isFalse => cases h
  obtain rfl := Option.some.inj h
  refine ⟨hs.set fun x hx => ?_, by simp⟩
  rcases mem_put hx with h1 | h1
  · exact hs.get hk h1
  · exact cells_bel hu x h1
theorem new_good {m : Mem} (hs : Sc m) {l : List V} (hl : ∀ v ∈ l, v.bel m.length) {v : V} (hv : v.bel (m.length + 1)) : Good m v (m ++ [⟨l, 2⟩]) :=
  ⟨by simpa using hv, hs.new fun v hv => V.bel_mono (by omega) v (hl v hv), by simp⟩
theorem fillA_bel {L : Nat} {place : Nat → Option (Nat × Nat)} : ∀ {parts : List (Nat × V)} {cells out : List V}, (∀ v ∈ cells, v.bel L) → (∀ q ∈ parts, q.2.bel L) → fillA place cells parts = some out → ∀ v ∈ out, v.bel L
  | [], cells, out, hc, _, h => by simp only [fillA, Option.some.injEq] at h; subst h; exact hc
  | (i, v) :: parts, cells, out, hc, hp, h => by
    simp only [fillA] at h
    split at h
    · cases h
    split at h
    case isFalse => cases h
    refine fillA_bel (place := place) (fun x hx => ?_) (fun q hq => hp q (by simp [hq])) h
    rcases mem_put hx with h1 | h1
    · exact hc x h1
    · exact cells_bel (hp (i, v) (by simp)) x h1
theorem zeros_mem {z : List V} {n : Nat} {v : V} (h : v ∈ zeros z n) : v ∈ z := by
  induction n with
  | zero => simp [zeros] at h
  | succ n ih => simp only [zeros, List.mem_append] at h; exact h.elim id ih
theorem append_good {t t2 : TypeId} {s x v : V} {m' : Mem} (hs : Sc m) (h1 : s.bel m.length) (h : opAppend T t t2 s x m = some (v, m')) : Good m v m' := by
  unfold opAppend at h
  split at h
  case h_2 => cases h
  split at h
  case h_2 => cases h
  split at h
  case h_2 => cases h
  rename_i news hnews
  have hn := sliceCells_bel hs hnews
  split at h
  · split at h
    · obtain ⟨rfl, rfl⟩ := Prod.mk.inj (Option.some.inj h); exact good_same hs (by simp only [V.bel])
    · split at h
      case isFalse => cases h
      obtain ⟨rfl, rfl⟩ := Prod.mk.inj (Option.some.inj h); exact new_good hs hn (by simp only [V.bel]; omega)
  · split at h
    · obtain ⟨rfl, rfl⟩ := Prod.mk.inj (Option.some.inj h); exact good_same hs (by simp only [V.bel])
    · split at h
      case isFalse => cases h
      obtain ⟨rfl, rfl⟩ := Prod.mk.inj (Option.some.inj h); exact new_good hs hn (by simp only [V.bel]; omega)
  · simp only [V.bel] at h1
    split at h
    case isFalse => cases h
    split at h
    · split at h
      · obtain ⟨rfl, rfl⟩ := Prod.mk.inj (Option.some.inj h); exact good_same hs (by simpa only [V.bel] using h1)
      · split at h
        case h_2 => cases h
        rename_i k hk
        split at h
        case isFalse => cases h
        obtain ⟨rfl, rfl⟩ := Prod.mk.inj (Option.some.inj h)
        refine ⟨by simpa only [V.bel, List.length_set] using h1, hs.set fun x hx => ?_, by simp⟩
        rcases mem_put hx with h2 | h2
        · exact hs.get hk h2
        · exact hn x h2
    · split at h
      case isFalse => cases h
      split at h
      case h_2 => cases h
      rename_i olds holds
      have ho := sliceCells_bel hs holds
      have hb : ∀ v ∈ olds ++ news, v.bel m.length := fun v hv => (List.mem_append.1 hv).elim (ho v) (hn v)
      split at h
      · obtain ⟨rfl, rfl⟩ := Prod.mk.inj (Option.some.inj h); exact new_good hs hb (by simp only [V.bel]; omega)
      · split at h
        case h_2 => cases h
        split at h
        case isFalse => cases h
        obtain ⟨rfl, rfl⟩ := Prod.mk.inj (Option.some.inj h)
        exact ⟨by simp only [V.bel, List.length_append, List.length_set, List.length_singleton]; omega, (hs.set (by simp)).new (fun v hv => V.bel_mono (by simp) v (hb v hv)), by simp⟩
  · cases h
theorem copy_good {t : TypeId} {d s v : V} {m' : Mem} (hs : Sc m) (h : opCopy T t d s m = some (v, m')) : Good m v m' := by
  unfold opCopy at h
  split at h
  case h_2 => cases h
  rename_i e _ _ _ a b ht hd hs2
  split at h
  case h_2 => cases h
  rename_i j hj
  split at h
  · obtain ⟨rfl, rfl⟩ := Prod.mk.inj (Option.some.inj h); exact good_same hs (by simp only [V.bel])
  split at h
  case h_2 => cases h
  rename_i cs q o len c z ex hcs
  split at h
  case h_2 => cases h
  rename_i k hk
  split at h
  case isFalse => cases h
  obtain ⟨rfl, rfl⟩ := Prod.mk.inj (Option.some.inj h)
  refine ⟨by simp only [V.bel], hs.set fun x hx => ?_, by simp⟩
  rcases mem_put hx with h1 | h1
  · exact hs.get hk h1
  · exact sliceCells_bel hs hcs x h1
theorem evo_bel {L : Nat} {e : Env} (he : ∀ t, (e t).bel L) {x : Operand} {v : V} (h : evo e x = some v) : v.bel L := by
  cases x <;> simp only [evo] at h
  case tmp t => obtain rfl := Option.some.inj h; exact he t
  case const c =>
    unfold ofConst at h
    split at h <;> first | (cases h; done) | (obtain rfl := Option.some.inj h; simp only [V.bel])
  case global => cases h
  case func => obtain rfl := Option.some.inj h; simp [V.bel, belL]
theorem evs_bel {L : Nat} {e : Env} (he : ∀ t, (e t).bel L) : ∀ {xs : List Operand} {l : List V}, evs e xs = some l → belL L l
  | [], l, h => by simp only [evs, Option.some.injEq] at h; subst h; simp [belL]
  | x :: xs, l, h => by
    simp only [evs] at h
    split at h
    · rename_i hv hl
      obtain rfl := Option.some.inj h
      simp only [belL]
      exact ⟨evo_bel he hv, evs_bel he hl⟩
    · cases h
theorem evParts_bel {L : Nat} {e : Env} (he : ∀ t, (e t).bel L) : ∀ {xs : List (Nat × Operand)} {l : List (Nat × V)}, evParts e xs = some l → ∀ q ∈ l, q.2.bel L
  | [], l, h => by simp only [evParts, Option.some.injEq] at h; subst h; simp
  | (i, x) :: xs, l, h => by
    simp only [evParts] at h
    split at h
    · rename_i hv hl
      obtain rfl := Option.some.inj h
      intro q hq
      rcases List.mem_cons.1 hq with rfl | hq
      · exact evo_bel he hv
      · exact evParts_bel he hl q hq
    · cases h
theorem slice_bel {L : Nat} {t : TypeId} {v u : V} {lo hi mx : Option V} (hv : v.bel L) (h : opSlice T t v lo hi mx = some u) : u.bel L := by
  unfold opSlice at h
  split at h
  case h_2 => cases h
  split at h
  · split at h
    case isFalse => cases h
    obtain rfl := Option.some.inj h; simp only [V.bel]
  · split at h
    case isFalse => cases h
    obtain rfl := Option.some.inj h; simp only [V.bel]
  · split at h
    case isFalse => cases h
    obtain rfl := Option.some.inj h; simp only [V.bel]
  · split at h
    case h_2 => cases h
    split at h
    case isFalse => cases h
    obtain rfl := Option.some.inj h; simpa only [V.bel] using hv
  · cases h
theorem opBin_bel {L : Nat} {op : BinOp} {t : TypeId} {x y u : V} (h : opBin T op t x y = some u) : u.bel L := by
  unfold opBin at h
  split at h
  · split at h
    · split at h
      · cases h
      · obtain rfl := Option.some.inj h; simp only [V.bel]
    · split at h
      · cases h
      · obtain rfl := Option.some.inj h; simp only [V.bel]
    · split at h
      case isFalse => cases h
      split at h
      · obtain rfl := Option.some.inj h; simp only [V.bel]
      · simp only [Option.map_eq_some_iff] at h; obtain ⟨b, _, rfl⟩ := h; simp only [V.bel]
  · simp only [Option.map_eq_some_iff] at h; obtain ⟨b, _, rfl⟩ := h; simp only [V.bel]
  · split at h
    · simp only [Option.map_eq_some_iff] at h; obtain ⟨b, _, rfl⟩ := h; simp only [V.bel]
    · simp only [Option.map_eq_some_iff] at h; obtain ⟨b, _, rfl⟩ := h; simp only [V.bel]
    · cases h
theorem part_bel {L : Nat} {j : TI} {l : List V} {o : Nat} {u : V} (hl : belL L l) (h : (if j.agg then some (V.agg ((l.drop o).take j.size)) else l[o]?) = some u) : u.bel L := by
  split at h
  · obtain rfl := Option.some.inj h
    simp only [V.bel]
    exact belL_iff.2 fun x hx => belL_iff.1 hl x (List.mem_of_mem_drop (List.mem_of_mem_take hx))
  · exact belL_iff.1 hl u (List.mem_of_getElem? h)
theorem opx_good (hT : TOk P T) {e : Env} {op : Op} {v : V} {m' : Mem} (hs : Sc m) (he : ∀ t, (e t).bel m.length) (h : opx T e m op = some (v, m')) : Good m v m' := by
  cases op <;> simp only [opx] at h
  case move x => simp only [Option.map_eq_some_iff, Prod.mk.injEq] at h; obtain ⟨u, hu, rfl, rfl⟩ := h; exact good_same hs (evo_bel he hu)
  case assign x => simp only [Option.map_eq_some_iff, Prod.mk.injEq] at h; obtain ⟨u, hu, rfl, rfl⟩ := h; exact good_same hs (evo_bel he hu)
  case pick c x y =>
    split at h
    case h_2 => cases h
    rename_i t u u' hc hx hy
    obtain ⟨rfl, rfl⟩ := Prod.mk.inj (Option.some.inj h)
    cases t
    · exact good_same hs (evo_bel he hy)
    · exact good_same hs (evo_bel he hx)
  case alloc t =>
    unfold opAlloc at h
    split at h
    case h_2 => cases h
    rename_i i hi
    obtain ⟨rfl, rfl⟩ := Prod.mk.inj (Option.some.inj h)
    exact new_good hs (hT.zero hi _) (by simp only [V.bel]; omega)
  case box t x =>
    simp only [Option.bind_eq_some_iff] at h
    obtain ⟨u, hu, h⟩ := h
    unfold opBox at h
    split at h
    case isFalse => cases h
    obtain ⟨rfl, rfl⟩ := Prod.mk.inj (Option.some.inj h)
    exact new_good hs (cells_bel (evo_bel he hu)) (by simp only [V.bel]; omega)
  case build t parts =>
    simp only [Option.bind_eq_some_iff, Option.map_eq_some_iff, Prod.mk.injEq] at h
    obtain ⟨l, hl, u, hu, rfl, rfl⟩ := h
    refine good_same hs ?_
    unfold opBuild at hu
    split at hu
    · rename_i ht
      split at hu
      case isFalse => cases hu
      simp only [Option.map_eq_some_iff] at hu
      obtain ⟨o, ho, rfl⟩ := hu
      simp only [V.bel]
      exact belL_iff.2 (fillA_bel (hT.zero ht _) (evParts_bel he hl) ho)
    · rename_i ht
      split at hu
      case h_2 => cases hu
      simp only [Option.map_eq_some_iff] at hu
      obtain ⟨o, ho, rfl⟩ := hu
      simp only [V.bel]
      exact belL_iff.2 (fillA_bel (hT.zero ht _) (evParts_bel he hl) ho)
    · cases hu
  case buildSlice t len parts =>
    simp only [Option.bind_eq_some_iff] at h
    obtain ⟨l, hl, h⟩ := h
    unfold opBuildSlice at h
    split at h
    case h_2 => cases h
    split at h
    case h_2 => cases h
    rename_i j hj
    split at h
    case isFalse => cases h
    split at h
    case h_2 => cases h
    rename_i cells hf
    obtain ⟨rfl, rfl⟩ := Prod.mk.inj (Option.some.inj h)
    exact new_good hs (fillA_bel (fun v hv => hT.zero hj _ v (zeros_mem hv)) (evParts_bel he hl) hf) (by simp only [V.bel]; omega)
  case load t x =>
    simp only [Option.bind_eq_some_iff, Option.map_eq_some_iff, Prod.mk.injEq] at h
    obtain ⟨u, hu, y, hy, rfl, rfl⟩ := h
    exact good_same hs (load_good hs hy)
  case store t x y =>
    simp only [Option.bind_eq_some_iff, Option.map_eq_some_iff, Prod.mk.injEq] at h
    obtain ⟨u, hu, y', hy, m1, h1, rfl, rfl⟩ := h
    obtain ⟨a, b⟩ := store_good hs (evo_bel he hy) h1
    exact ⟨by simp [V.bel, belL], a, by omega⟩
  case nilCheck x =>
    split at h
    · rename_i hx; obtain ⟨rfl, rfl⟩ := Prod.mk.inj (Option.some.inj h); exact good_same hs (evo_bel he hx)
    · rename_i hx; obtain ⟨rfl, rfl⟩ := Prod.mk.inj (Option.some.inj h); exact good_same hs (evo_bel he hx)
    · cases h
  case binOp op t x y t2 =>
    simp only [Option.bind_eq_some_iff, Option.map_eq_some_iff, Prod.mk.injEq] at h
    obtain ⟨u, hu, y', hy, z, hz, rfl, rfl⟩ := h
    exact good_same hs (opBin_bel hz)
  case unOp op t x =>
    simp only [Option.bind_eq_some_iff, Option.map_eq_some_iff, Prod.mk.injEq] at h
    obtain ⟨u, hu, z, hz, rfl, rfl⟩ := h
    refine good_same hs ?_
    unfold opUn at hz
    split at hz <;> first | (cases hz; done) | (obtain rfl := Option.some.inj hz; simp only [V.bel])
  case convert s d x =>
    simp only [Option.bind_eq_some_iff, Option.map_eq_some_iff, Prod.mk.injEq] at h
    obtain ⟨u, hu, z, hz, rfl, rfl⟩ := h
    refine good_same hs ?_
    unfold opConv at hz
    split at hz <;> first | (cases hz; done) | (obtain rfl := Option.some.inj hz; simp only [V.bel])
  case makeFunc fn first cap =>
    cases fn <;> simp only at h
    case func f =>
      simp only [Option.bind_eq_some_iff, Option.map_eq_some_iff, Prod.mk.injEq] at h
      obtain ⟨l, hl, c, hc, rfl, rfl⟩ := h
      exact good_same hs (by simp only [V.bel]; exact ⟨evs_bel he hl, evs_bel he hc⟩)
    all_goals cases h
  case makeSlice t l c =>
    simp only [Option.bind_eq_some_iff] at h
    obtain ⟨u, hu, y', hy, h⟩ := h
    unfold opMakeSlice at h
    split at h
    case h_2 => cases h
    split at h
    case h_2 => cases h
    rename_i j hj
    split at h
    case isFalse => cases h
    obtain ⟨rfl, rfl⟩ := Prod.mk.inj (Option.some.inj h)
    exact new_good hs (fun v hv => hT.zero hj _ v (zeros_mem hv)) (by simp only [V.bel]; omega)
  case slice t x lo hi mx =>
    simp only [Option.bind_eq_some_iff, Option.map_eq_some_iff, Prod.mk.injEq] at h
    obtain ⟨u, hu, l, hl, hh, hhi, q, hq, z, hz, rfl, rfl⟩ := h
    exact good_same hs (slice_bel (evo_bel he hu) hz)
  case fieldAddr s x f =>
    simp only [Option.bind_eq_some_iff, Option.map_eq_some_iff, Prod.mk.injEq] at h
    obtain ⟨u, hu, z, hz, rfl, rfl⟩ := h
    have hb := evo_bel he hu
    refine good_same hs ?_
    unfold opFieldAddr at hz
    split at hz
    case h_2 => cases hz
    split at hz
    case h_2 => cases hz
    split at hz
    case h_2 => cases hz
    split at hz
    · cases hz
    obtain rfl := Option.some.inj hz
    simpa only [V.bel] using hb
  case field t x f =>
    simp only [Option.bind_eq_some_iff, Option.map_eq_some_iff, Prod.mk.injEq] at h
    obtain ⟨u, hu, z, hz, rfl, rfl⟩ := h
    have hb := evo_bel he hu
    refine good_same hs ?_
    unfold opField at hz
    split at hz
    case h_2 => cases hz
    split at hz
    case h_2 => cases hz
    split at hz
    case h_2 => cases hz
    simp only [V.bel] at hb
    exact part_bel hb hz
  case indexAddr t x i =>
    simp only [Option.bind_eq_some_iff, Option.map_eq_some_iff, Prod.mk.injEq] at h
    obtain ⟨u, hu, y', hy, z, hz, rfl, rfl⟩ := h
    have hb := evo_bel he hu
    refine good_same hs ?_
    unfold opIndexAddr at hz
    split at hz
    · split at hz
      case h_2 => cases hz
      split at hz
      case isFalse => cases hz
      obtain rfl := Option.some.inj hz
      simpa only [V.bel] using hb
    · split at hz
      case h_2 => cases hz
      split at hz
      case isFalse => cases hz
      obtain rfl := Option.some.inj hz
      simpa only [V.bel] using hb
    · cases hz
  case index t x i =>
    simp only [Option.bind_eq_some_iff, Option.map_eq_some_iff, Prod.mk.injEq] at h
    obtain ⟨u, hu, y', hy, z, hz, rfl, rfl⟩ := h
    have hb := evo_bel he hu
    refine good_same hs ?_
    unfold opIndex at hz
    split at hz
    · split at hz
      case isFalse => cases hz
      split at hz
      case h_2 => cases hz
      obtain rfl := Option.some.inj hz
      simp only [V.bel]
    · split at hz
      case h_2 => cases hz
      split at hz
      case isFalse => cases hz
      simp only [V.bel] at hb
      exact part_bel hb hz
    · cases hz
  case extract x i =>
    split at h
    case h_2 => cases h
    rename_i l hx
    simp only [Option.map_eq_some_iff, Prod.mk.injEq] at h
    obtain ⟨z, hz, rfl, rfl⟩ := h
    have hb := evo_bel he hx
    simp only [V.bel] at hb
    exact good_same hs (belL_iff.1 hb z (List.mem_of_getElem? hz))
  case call c =>
    obtain ⟨cal, args, ts⟩ := c
    cases cal <;> simp only at h
    case builtin b =>
      simp only [Option.bind_eq_some_iff] at h
      obtain ⟨l, hl, h⟩ := h
      have hb := evs_bel he hl
      unfold opBuiltin at h
      split at h
      · simp only [Option.map_eq_some_iff, Prod.mk.injEq] at h
        obtain ⟨z, hz, rfl, rfl⟩ := h
        refine good_same hs ?_
        unfold opLen at hz
        split at hz <;> first | (cases hz; done) | (obtain rfl := Option.some.inj hz; simp only [V.bel])
      · exact append_good hs (by simp only [belL] at hb; exact hb.1) h
      · exact copy_good hs h
      · simp only [Option.map_eq_some_iff, Prod.mk.injEq] at h
        obtain ⟨z, hz, rfl, rfl⟩ := h
        refine good_same hs ?_
        unfold opMin at hz
        split at hz <;> first | (cases hz; done) | (obtain rfl := Option.some.inj hz; simp only [V.bel])
      · simp only [Option.map_eq_some_iff, Prod.mk.injEq] at h
        obtain ⟨z, hz, rfl, rfl⟩ := h
        refine good_same hs ?_
        unfold opMax at hz
        split at hz <;> first | (cases hz; done) | (obtain rfl := Option.some.inj hz; simp only [V.bel])
      · cases h
    all_goals cases h
  all_goals cases h
theorem opx_quiet {e : Env} {op : Op} {v : V} {m' : Mem} (hr : risky op = false) (h : opx T e m op = some (v, m')) : m <+: m' := by
  cases op <;> simp only [opx] at h
  case alloc t =>
    unfold opAlloc at h
    split at h
    case h_2 => cases h
    obtain ⟨rfl, rfl⟩ := Prod.mk.inj (Option.some.inj h); exact List.prefix_append _ _
  case box t x =>
    simp only [Option.bind_eq_some_iff] at h
    obtain ⟨u, hu, h⟩ := h
    unfold opBox at h
    split at h
    case isFalse => cases h
    obtain ⟨rfl, rfl⟩ := Prod.mk.inj (Option.some.inj h); exact List.prefix_append _ _
  case buildSlice t len parts =>
    simp only [Option.bind_eq_some_iff] at h
    obtain ⟨l, hl, h⟩ := h
    unfold opBuildSlice at h
    split at h
    case h_2 => cases h
    split at h
    case h_2 => cases h
    split at h
    case isFalse => cases h
    split at h
    case h_2 => cases h
    obtain ⟨rfl, rfl⟩ := Prod.mk.inj (Option.some.inj h); exact List.prefix_append _ _
  case makeSlice t l c =>
    simp only [Option.bind_eq_some_iff] at h
    obtain ⟨u, hu, y', hy, h⟩ := h
    unfold opMakeSlice at h
    split at h
    case h_2 => cases h
    split at h
    case h_2 => cases h
    split at h
    case isFalse => cases h
    obtain ⟨rfl, rfl⟩ := Prod.mk.inj (Option.some.inj h); exact List.prefix_append _ _
  case pick =>
    split at h
    case h_2 => cases h
    obtain ⟨rfl, rfl⟩ := Prod.mk.inj (Option.some.inj h); exact List.prefix_refl _
  case nilCheck =>
    split at h
    · obtain ⟨rfl, rfl⟩ := Prod.mk.inj (Option.some.inj h); exact List.prefix_refl _
    · obtain ⟨rfl, rfl⟩ := Prod.mk.inj (Option.some.inj h); exact List.prefix_refl _
    · cases h
  case makeFunc fn first cap =>
    cases fn <;> simp only at h
    case func f =>
      simp only [Option.bind_eq_some_iff, Option.map_eq_some_iff, Prod.mk.injEq] at h
      obtain ⟨l, hl, c, hc, rfl, rfl⟩ := h
      exact List.prefix_refl _
    all_goals cases h
  case extract x i =>
    split at h
    case h_2 => cases h
    simp only [Option.map_eq_some_iff, Prod.mk.injEq] at h
    obtain ⟨z, hz, rfl, rfl⟩ := h
    exact List.prefix_refl _
  case store => simp [risky] at hr
  case call c =>
    obtain ⟨cal, args, ts⟩ := c
    cases cal <;> simp only at h
    case builtin b =>
      simp only [Option.bind_eq_some_iff] at h
      obtain ⟨l, hl, h⟩ := h
      unfold opBuiltin at h
      split at h
      · simp only [Option.map_eq_some_iff, Prod.mk.injEq] at h; obtain ⟨z, hz, rfl, rfl⟩ := h; exact List.prefix_refl _
      · simp [risky] at hr
      · simp [risky] at hr
      · simp only [Option.map_eq_some_iff, Prod.mk.injEq] at h; obtain ⟨z, hz, rfl, rfl⟩ := h; exact List.prefix_refl _
      · simp only [Option.map_eq_some_iff, Prod.mk.injEq] at h; obtain ⟨z, hz, rfl, rfl⟩ := h; exact List.prefix_refl _
      · cases h
    all_goals cases h
  all_goals first
    | (cases h; done)
    | (simp only [Option.map_eq_some_iff, Prod.mk.injEq] at h; obtain ⟨_, _, _, rfl⟩ := h; exact List.prefix_refl _)
    | (simp only [Option.bind_eq_some_iff, Option.map_eq_some_iff, Prod.mk.injEq] at h; obtain ⟨_, _, _, _, _, rfl⟩ := h; exact List.prefix_refl _)
    | (simp only [Option.bind_eq_some_iff, Option.map_eq_some_iff, Prod.mk.injEq] at h; obtain ⟨_, _, _, _, _, _, _, rfl⟩ := h; exact List.prefix_refl _)
    | (simp only [Option.bind_eq_some_iff, Option.map_eq_some_iff, Prod.mk.injEq] at h; obtain ⟨_, _, _, _, _, _, _, _, _, _, _, rfl⟩ := h; exact List.prefix_refl _)
def CallGood (call : CallT) : Prop := ∀ f args m v m', call f args m = some (v, m') → Sc m → belL m.length args → Good m v m'
theorem belL_append {L : Nat} {a b : List V} (ha : belL L a) (hb : belL L b) : belL L (a ++ b) :=
  belL_iff.2 fun v hv => (List.mem_append.1 hv).elim (belL_iff.1 ha v) (belL_iff.1 hb v)
theorem stepW_good {call : CallT} (hT : TOk P T) (hG : CallGood call) {ops : Array Oper} {o : Oper} {e : Env} {v : V} {m' : Mem} (hs : Sc m) (he : ∀ t, (e t).bel m.length) (h : stepW T call ops e m o = some (v, m')) : Good m v m' := by
  unfold stepW at h
  split at h
  · unfold stepOp at h
    split at h
    · split at h
      case h_2 => cases h
      rename_i g first cap l hf hl
      have hb := evo_bel he hf
      simp only [V.bel] at hb
      exact hG _ _ _ _ _ h hs (belL_append (belL_append hb.1 (evs_bel he hl)) hb.2)
    · exact opx_good hT hs he h
  · obtain ⟨rfl, rfl⟩ := Prod.mk.inj (Option.some.inj h)
    exact good_same hs (by simp [V.bel, belL])
theorem upd_bel {L : Nat} {e : Env} (he : ∀ t, (e t).bel L) {d : Option Tmp} {v : V} (hv : v.bel L) : ∀ t, (e.upd d v t).bel L := by
  intro t
  cases d with
  | none => exact he t
  | some d => simp only [Env.upd]; split <;> first | exact hv | exact he t
end Go.Proofs.YtefjnnghfloddaaGreat.Abs

/- The executor is sound: regions in the order of the text. -/
namespace Go.Proofs.YtefjnnghfloddaaGreat.Abs
set_option linter.unusedVariables false
set_option linter.unusedSimpArgs false
variable {P : Program} {T : TT} {ρ : Rho} {m : Mem} {w : World} {fr : Option Nat} {fd : Nat} {ds : List Deferred}
abbrev Fr (fr : Option Nat) : Fence := { Fence.wide with round := fr }
theorem calls_fr {f : FuncId} {args : Array Value} {w : World} {R : Ending → World → Prop} (h : Calls P f args w R) : CallsIn (Fr fr) fd P f args w R := by
  cases fr with
  | none => exact callsIn_wide.2 h
  | some l => exact CallsIn.inRound l (callsIn_wide.2 h)
theorem semAt_fr (ev : Operand → Value) (o : Oper) (h : ∀ c, o.op ≠ .defer c) : Oper.semAt fr ev o = execOp ev o := by
  cases fr with
  | none => exact Oper.semAt_none _ _
  | some l => exact Oper.semAt_some l _ _ h
theorem opx_nodefer {e : Env} {o : Op} {x : V × Mem} (h : opx T e m o = some x) (c : Call) : o ≠ .defer c := by
  rintro rfl
  cases h
def CallSound (P : Program) (call : CallT) : Prop := ∀ f args m v m', call f args m = some (v, m') → Sc m → belL m.length args →
  (∀ args' w, (callFunc f args').run P w = .ok (.enter f args') w) ∧
  ∀ ρ w (xs : Array Value), RelL ρ args xs.toList → Sim ρ m w → Calls P f xs w fun e w' => ∃ ρ' x, e = .returned x ∧ Rel ρ' v x ∧ Sim ρ' m' w' ∧ Step ρ m w ρ' m' w'
theorem wanted_eq {ops : Array Oper} {o : Oper} {e : Env} {a : Act} (he : EnvOn ρ e a (o.looksAt ops)) (hd : ∀ (j : Nat) (o' : Oper) d, ops[j]? = some o' → o'.dst = some d → d < a.tmps.size) :
    Region.wanted o (yielded ops a.tmps) = wantedE ops o e := by
  unfold Region.wanted wantedE
  cases hg : o.guard with
  | none => rfl
  | some g =>
    obtain ⟨j, want⟩ := g
    simp only
    unfold yielded
    cases hj : (ops[j]?).bind (·.dst) with
    | none => simp
    | some d =>
      simp only [Option.bind_some]
      have hin : d ∈ o.looksAt ops := by
        unfold Oper.looksAt
        refine List.mem_append_right _ ?_
        simp [hg, hj]
      have hr := he d hin
      obtain ⟨o', ho', hd'⟩ := Option.bind_eq_some_iff.1 hj
      have hlt := hd j o' d ho' hd'
      have e1 : a.tmps[d]? = some (a.tmps.getD d undef) := by simp [hlt]
      rw [e1]
      generalize a.tmps.getD d undef = x at hr
      cases hv : e d <;> rw [hv] at hr <;> simp only [Rel] at hr
      case bool b => subst hr; simp
      case fn => obtain ⟨_, _, rfl, _⟩ := hr; simp
      case ptr => obtain ⟨_, _, rfl⟩ := hr; simp
      case sle => obtain ⟨_, rfl⟩ := hr; simp
      case sl => obtain ⟨_, _, _, _, rfl, _⟩ := hr; simp
      case ifc => obtain ⟨_, rfl, _⟩ := hr; simp
      case agg => obtain ⟨_, rfl, _⟩ := hr; simp
      case tup => obtain ⟨_, rfl, _⟩ := hr; simp
      all_goals (subst hr; simp)
theorem wpOp_abs {call : CallT} (hT : TOk P T) (hC : CallSound P call) {ops : Array Oper} {i : Nat} {o : Oper} {e : Env} {a : Act} {v : V} {m' : Mem} {Q : Exit → Act → World → Prop} {K : Act → World → Prop} (ho : ops[i]? = some o)
    (hd : ∀ (j : Nat) (o' : Oper) d, ops[j]? = some o' → o'.dst = some d → d < a.tmps.size) (S : Sim ρ m w) (hs : Sc m) (hb : ∀ t, (e t).bel m.length) (he : EnvOn ρ e a (o.looksAt ops)) (h : stepW T call ops e m o = some (v, m'))
    (hK : ∀ ρ' x w', Rel ρ' v x → Sim ρ' m' w' → Step ρ m w ρ' m' w' → K (a.put o.dst x) w') : wpOpIn (Fr fr) fd P ops Q i K a w := by
  unfold wpOpIn
  simp only [ho, wanted_eq he hd]
  unfold stepW at h
  split at h
  case isFalse hw =>
    rw [if_neg hw]
    obtain ⟨rfl, rfl⟩ := Prod.mk.inj (Option.some.inj h)
    exact ⟨fun _ _ => trivial, hK ρ undef w (Rel.undef _) S (Step.refl _ _ _)⟩
  case isTrue hw =>
    rw [if_pos hw]
    unfold Oper.wpIn
    refine ⟨fun _ _ => trivial, ?_⟩
    have tm : ∀ t, Operand.tmp t ∈ o.op.operands → Rel ρ (e t) (a.tmps.getD t undef) := fun t ht => he t (mem_looks ht)
    unfold stepOp at h
    split at h
    · rename_i f args ts hop
      split at h
      case h_2 => cases h
      rename_i g first cap l hf hl
      have hbf := evo_bel hb hf
      simp only [V.bel] at hbf
      obtain ⟨hcf, hcall⟩ := hC _ _ _ _ _ h hs (belL_append (belL_append hbf.1 (evs_bel hb hl)) hbf.2)
      have rf := evo_rel (ρ := ρ) (a := a) hf (fun t ht => tm t (by rw [hop, ht]; simp [Op.operands, Call.operands]))
      have rl := evs_rel (ρ := ρ) (a := a) hl (fun t ht => tm t (by rw [hop]; simp [Op.operands, Call.operands]; exact .inr (by simpa using ht)))
      simp only [Rel] at rf
      obtain ⟨fs, cs, ef, r1, r2⟩ := rf
      have hrun : (execOp a.eval o).run P w = .ok (.enter g (fs ++ args.map a.eval ++ cs)) w := by
        unfold execOp
        simp only [hop, resolve, ef, Deferred.ofValue, Sem.run_bind, Sem.run_pure, Result.andThen_ok, invoke]
        exact hcf _ _
      rw [semAt_fr _ _ (by intro c; rw [hop]; simp), hrun]
      simp only [Oper.uponIn]
      refine ⟨by simp [Fence.wide], calls_fr ((hcall ρ w (fs ++ args.map a.eval ++ cs) ?_ S).mono ?_)⟩
      · have := (r1.append rl).append r2
        simpa using this
      · rintro e' w' ⟨ρ', x, rfl, hx, hS, hst⟩
        exact hK ρ' x w' hx hS hst
    · rw [semAt_fr _ _ (opx_nodefer h)]
      obtain ⟨ρ', x, w', hrun, hx, hS, hst⟩ := opx_ok hT S he h
      rcases hrun with hrun | ⟨hrun, rfl⟩
      · rw [hrun]; exact hK ρ' x w' hx hS hst
      · rw [hrun]; exact hK ρ' undef w' hx hS hst
structure ER (ds : List Deferred) (ρ : Rho) (N : Nat) (e : Env) (a : Act) : Prop where
  size : a.tmps.size = N
  rel : ∀ t, Rel ρ (e t) (a.tmps.getD t undef)
  defers : a.defers = ds
theorem ER.mono {ρ ρ' : Rho} {N : Nat} {e : Env} {a : Act} (h : ER ds ρ N e a) (le : ρ.le ρ') : ER ds ρ' N e a := ⟨h.size, fun t => (h.rel t).mono le, h.defers⟩
theorem ER.put {ρ : Rho} {N : Nat} {e : Env} {a : Act} (h : ER ds ρ N e a) {d : Option Tmp} (hd : ∀ t, d = some t → t < N) {v : V} {x : Value} (r : Rel ρ v x) : ER ds ρ N (e.upd d v) (a.put d x) := by
  cases d with
  | none => exact h
  | some d =>
    have hlt : d < a.tmps.size := by rw [h.size]; exact hd d rfl
    refine ⟨by simp [Act.put, h.size], fun t => ?_, h.defers⟩
    simp only [Env.upd, Act.put]
    by_cases e1 : t = d
    · subst e1
      rw [if_pos rfl]
      simpa [hlt] using r
    · rw [if_neg e1]
      have := h.rel t
      simpa [Array.getElem?_setIfInBounds, Ne.symm e1, Array.getD_eq_getD_getElem?] using this
def dstOk (N : Nat) (ops : Array Oper) : Bool := ops.all fun o => match o.dst with
  | some d => decide (d < N)
  | none => true
theorem dstOk_spec {N : Nat} {ops : Array Oper} (h : dstOk N ops = true) (j : Nat) (o : Oper) (d : Tmp) (ho : ops[j]? = some o) (hd : o.dst = some d) : d < N := by
  unfold dstOk at h
  have := (Array.all_eq_true_iff_forall_mem.1 h) o (Array.mem_of_getElem? ho)
  rw [hd] at this
  simpa using this
theorem wpOps_sound {call : CallT} (hT : TOk P T) (hC : CallSound P call) (hG : CallGood call) {ops : Array Oper} {N : Nat} (hN : dstOk N ops = true) {chk : Nat → Bool × List Op} {Q : Exit → Act → World → Prop} :
    ∀ (is : List Nat) {ρ : Rho} {e e' : Env} {m m' : Mem} {a : Act} {w : World}, runOps T call chk ops is e m = some (e', m') → ER ds ρ N e a → Sim ρ m w → Sc m → (∀ t, (e t).bel m.length) →
      (∀ ρ' a' w', ER ds ρ' N e' a' → Sim ρ' m' w' → Step ρ m w ρ' m' w' → Q .normal a' w') → wpOpsIn (Fr fr) fd P ops Q is a w
  | [], ρ, e, e', m, m', a, w, h, hE, S, hs, hb, hQ => by
    simp only [runOps, Option.some.injEq, Prod.mk.injEq] at h
    obtain ⟨rfl, rfl⟩ := h
    exact hQ ρ a w hE S (Step.refl _ _ _)
  | i :: is, ρ, e, e', m, m', a, w, h, hE, S, hs, hb, hQ => by
    rw [wpOpsIn_cons]
    simp only [runOps] at h
    split at h
    · cases h
    rename_i o ho
    split at h
    · cases h
    rename_i v m1 hstep
    have h2 : runOps T call chk ops is (e.upd o.dst v) m1 = some (e', m') := by
      split at h
      · split at h
        · exact (chkS_some h).1
        · cases h
      · exact (chkS_some h).1
    refine wpOp_abs hT hC ho (fun j o' d h1 h2 => by rw [hE.size]; exact dstOk_spec hN j o' d h1 h2) S hs hb (fun t _ => hE.rel t) hstep ?_
    intro ρ1 x w1 hx S1 st1
    obtain ⟨g1, g2, g3⟩ := stepW_good hT hG hs hb hstep
    refine wpOps_sound hT hC hG hN is h2 ((hE.mono (st1.le S.dom)).put (fun t ht => dstOk_spec hN i o t ho ht) hx) S1 g2 (upd_bel (fun t => V.bel_mono g3 _ (hb t)) g1) ?_
    intro ρ2 a2 w2 hE2 S2 st2
    exact hQ ρ2 a2 w2 hE2 S2 (st1.trans st2)
end Go.Proofs.YtefjnnghfloddaaGreat.Abs

/- The executor is sound: regions whose order is open. -/
namespace Go.Proofs.YtefjnnghfloddaaGreat.Abs
set_option linter.unusedVariables false
set_option linter.unusedSimpArgs false
variable {P : Program} {T : TT} {ρ : Rho} {m : Mem} {w : World}
theorem orEdges_spec {acc : List Nat} {i : Nat} : ∀ {es : List Edge}, (orEdges acc es).testBit i = true → ∃ e ∈ es, Region.binds .any e = true ∧ (e.on = i ∨ (acc.getD e.on 0).testBit i = true)
  | [], h => by simp [orEdges] at h
  | e :: es, h => by
    simp only [orEdges, Nat.testBit_or, Bool.or_eq_true] at h
    rcases h with h | h
    · split at h
      · rename_i hb
        simp only [Nat.testBit_or, Bool.or_eq_true, Nat.testBit_two_pow, decide_eq_true_eq] at h
        exact ⟨e, by simp, hb, h⟩
      · simp at h
    · obtain ⟨e', he, h1⟩ := orEdges_spec h
      exact ⟨e', by simp [he], h1⟩
theorem bef_prefix : ∀ (os : List Oper) (acc : List Nat), acc <+: bef os acc
  | [], acc => List.prefix_refl _
  | o :: os, acc => (List.prefix_append acc _).trans (bef_prefix os _)
theorem bef_spec : ∀ (os : List Oper) (acc : List Nat) (q : Nat) (o : Oper), os[q]? = some o → (bef os acc).getD (acc.length + q) 0 = orEdges ((bef os acc).take (acc.length + q)) o.after.toList
  | [], acc, q, o, h => by simp at h
  | o' :: os, acc, 0, o, h => by
    simp only [List.getElem?_cons_zero, Option.some.injEq] at h
    subst h
    simp only [bef, Nat.add_zero]
    obtain ⟨r, hr⟩ := bef_prefix os (acc ++ [orEdges acc o'.after.toList])
    rw [← hr]
    have e1 : (acc ++ [orEdges acc o'.after.toList] ++ r).take acc.length = acc := by simp [List.append_assoc]
    rw [e1]
    simp [List.append_assoc, List.getD]
  | o' :: os, acc, q + 1, o, h => by
    simp only [bef]
    have := bef_spec os (acc ++ [orEdges acc o'.after.toList]) q o (by simpa using h)
    simp only [List.length_append, List.length_singleton] at this
    rw [show acc.length + (q + 1) = acc.length + 1 + q by omega]
    exact this
theorem bef_length : ∀ (os : List Oper) (acc : List Nat), (bef os acc).length = acc.length + os.length
  | [], acc => by simp [bef]
  | o :: os, acc => by simp [bef, bef_length os]; omega
def Closed (ops : Array Oper) (S : Nat → Prop) : Prop := ∀ j o, S j → ops[j]? = some o → ∀ e ∈ o.after, Region.binds .any e = true → S e.on
theorem befs_bit {ops : Array Oper} {j i : Nat} (h : ((befs ops).getD j 0).testBit i = true) : ∃ o, ops[j]? = some o ∧ ∃ e ∈ o.after, Region.binds .any e = true ∧ (e.on = i ∨ (e.on < j ∧ ((befs ops).getD e.on 0).testBit i = true)) := by
  have hj : j < ops.size := by
    rcases Nat.lt_or_ge j ops.size with h1 | h1
    · exact h1
    · have : (befs ops).length ≤ j := by unfold befs; rw [bef_length]; simpa using h1
      rw [List.getD_eq_getElem?_getD, List.getElem?_eq_none this] at h
      simp at h
  obtain ⟨o, ho⟩ : ∃ o, ops[j]? = some o := ⟨ops[j], by simp [hj]⟩
  have := bef_spec ops.toList [] j o (by simpa using ho)
  simp only [List.length_nil, Nat.zero_add] at this
  have e0 : (befs ops).getD j 0 = orEdges ((befs ops).take j) o.after.toList := this
  rw [e0] at h
  obtain ⟨e, he, hb, h1⟩ := orEdges_spec h
  refine ⟨o, ho, e, by simpa using he, hb, h1.imp id fun h2 => ?_⟩
  rcases Nat.lt_or_ge e.on j with h3 | h3
  · refine ⟨h3, ?_⟩
    rw [List.getD_eq_getElem?_getD, List.getElem?_take_of_lt h3] at h2
    rwa [List.getD_eq_getElem?_getD]
  · rw [List.getD_eq_getElem?_getD, List.getElem?_eq_none (by simp; omega)] at h2
    simp at h2
theorem closed_bit {ops : Array Oper} {S : Nat → Prop} (hS : Closed ops S) : ∀ (j i : Nat), S j → ((befs ops).getD j 0).testBit i = true → S i := by
  intro j
  induction j using Nat.strongRecOn with
  | _ j ih =>
    intro i hj h
    obtain ⟨o, ho, e, he, hb, h1⟩ := befs_bit h
    have he2 := hS j o hj ho e he hb
    rcases h1 with rfl | ⟨h2, h3⟩
    · exact he2
    · exact ih e.on h2 i he2 h3
theorem ready_bit {ops : Array Oper} {S : Nat → Prop} (hS : Closed ops S) {j i : Nat} {o : Oper} (ho : ops[j]? = some o) (hr : ∀ e ∈ o.after, Region.binds .any e = true → S e.on)
    (h : ((befs ops).getD j 0).testBit i = true) : S i := by
  obtain ⟨o', ho', e, he, hb, h1⟩ := befs_bit h
  rw [ho] at ho'
  obtain rfl := Option.some.inj ho'
  have he2 := hr e he hb
  rcases h1 with rfl | ⟨_, h3⟩
  · exact he2
  · exact closed_bit hS _ _ he2 h3
def regOk (ops : Array Oper) : Bool :=
  (List.range ops.size).all fun j => match ops[j]? with
    | some o => o.after.all (fun e => !Region.binds .any e || decide (e.on < j)) &&
      (List.range ops.size).all fun i => i == j || (match ops[i]? with
        | some o' => (match o'.dst with
          | some t => !((o.looksAt ops).contains t || o.dst == some t) || comp (befs ops) i j
          | none => true)
        | none => true)
    | none => true
theorem regOk_edge {ops : Array Oper} (h : regOk ops = true) {j : Nat} {o : Oper} (ho : ops[j]? = some o) : ∀ e ∈ o.after, Region.binds .any e = true → e.on < j := by
  have hj : j < ops.size := (Array.getElem?_eq_some_iff.1 ho).1
  have := (List.all_eq_true.1 h) j (List.mem_range.2 hj)
  rw [ho] at this
  simp only [Bool.and_eq_true] at this
  intro e he hb
  have h2 := (Array.all_eq_true_iff_forall_mem.1 this.1) e he
  simpa [hb] using h2
theorem regOk_comp {ops : Array Oper} (h : regOk ops = true) {i j : Nat} {o o' : Oper} {t : Tmp} (hi : ops[i]? = some o') (hj : ops[j]? = some o) (hd : o'.dst = some t) (hne : i ≠ j)
    (ht : t ∈ o.looksAt ops ∨ o.dst = some t) : comp (befs ops) i j = true := by
  have hj' : j < ops.size := (Array.getElem?_eq_some_iff.1 hj).1
  have hi' : i < ops.size := (Array.getElem?_eq_some_iff.1 hi).1
  have := (List.all_eq_true.1 h) j (List.mem_range.2 hj')
  rw [hj] at this
  simp only [Bool.and_eq_true] at this
  have h2 := (List.all_eq_true.1 this.2) i (List.mem_range.2 hi')
  rw [hi] at h2
  simp only [hd] at h2
  have hne2 : (i == j) = false := by simpa using hne
  have hor : ((o.looksAt ops).contains t || o.dst == some t) = true := by
    rcases ht with ht | ht
    · simp [ht]
    · simp [ht]
  rw [hne2, hor] at h2
  simpa using h2
theorem ordOk_comp {ops : Array Oper} {i j : Nat} (h : ordOk ops i = true) (hj : j < ops.size) (hne : j ≠ i) (hp : pureAt ops j = false) : comp (befs ops) i j = true := by
  unfold ordOk at h
  rw [Bool.and_eq_true] at h
  have := (List.all_eq_true.1 h.2) j (List.mem_range.2 hj)
  have hne2 : (j == i) = false := by simpa using hne
  rw [hne2, hp] at this
  simpa using this
theorem ordOk_pure {ops : Array Oper} {i : Nat} (h : ordOk ops i = true) : pureAt ops i = false := by
  unfold ordOk at h
  rw [Bool.and_eq_true] at h
  simpa using h.1
theorem opx_pure {e : Env} {m m' : Mem} {op : Op} {v : V} (hp : mpure op = true) (h : opx T e m op = some (v, m')) : m' = m ∧ ∀ m2, opx T e m2 op = some (v, m2) := by
  cases op <;> simp only [mpure, Bool.false_eq_true] at hp <;> simp only [opx] at h ⊢
  case move x =>
    simp only [Option.map_eq_some_iff, Prod.mk.injEq] at h
    obtain ⟨u, hu, rfl, rfl⟩ := h
    exact ⟨rfl, fun m2 => by simp [hu]⟩
  case assign x =>
    simp only [Option.map_eq_some_iff, Prod.mk.injEq] at h
    obtain ⟨u, hu, rfl, rfl⟩ := h
    exact ⟨rfl, fun m2 => by simp [hu]⟩
  case pick c a b =>
    split at h
    · rename_i e1 e2 e3
      obtain ⟨rfl, rfl⟩ := Prod.mk.inj (Option.some.inj h)
      exact ⟨rfl, fun m2 => by simp only [e1, e2, e3]⟩
    · cases h
  case build t parts =>
    simp only [Option.bind_eq_some_iff, Option.map_eq_some_iff, Prod.mk.injEq] at h
    obtain ⟨l, h1, u, h2, rfl, rfl⟩ := h
    exact ⟨rfl, fun m2 => by simp [h1, h2]⟩
  case nilCheck x =>
    split at h
    · rename_i e1
      obtain ⟨rfl, rfl⟩ := Prod.mk.inj (Option.some.inj h)
      exact ⟨rfl, fun m2 => by simp only [e1]⟩
    · rename_i e1
      obtain ⟨rfl, rfl⟩ := Prod.mk.inj (Option.some.inj h)
      exact ⟨rfl, fun m2 => by simp only [e1]⟩
    · cases h
  case binOp op t x y z =>
    simp only [Option.bind_eq_some_iff, Option.map_eq_some_iff, Prod.mk.injEq] at h
    obtain ⟨l, h1, u, h2, q, h3, rfl, rfl⟩ := h
    exact ⟨rfl, fun m2 => by simp [h1, h2, h3]⟩
  case unOp op t x =>
    simp only [Option.bind_eq_some_iff, Option.map_eq_some_iff, Prod.mk.injEq] at h
    obtain ⟨l, h1, u, h2, rfl, rfl⟩ := h
    exact ⟨rfl, fun m2 => by simp [h1, h2]⟩
  case convert s d x =>
    simp only [Option.bind_eq_some_iff, Option.map_eq_some_iff, Prod.mk.injEq] at h
    obtain ⟨l, h1, u, h2, rfl, rfl⟩ := h
    exact ⟨rfl, fun m2 => by simp [h1, h2]⟩
  case makeFunc f first cap =>
    cases f <;> simp only [opx, reduceCtorEq] at h ⊢
    simp only [Option.bind_eq_some_iff, Option.map_eq_some_iff, Prod.mk.injEq] at h
    obtain ⟨l, h1, u, h2, rfl, rfl⟩ := h
    exact ⟨rfl, fun m2 => by simp [h1, h2]⟩
  case slice t x lo hi mx =>
    simp only [Option.bind_eq_some_iff, Option.map_eq_some_iff, Prod.mk.injEq] at h
    obtain ⟨l, h1, u, h2, q, h3, r, h4, s, h5, rfl, rfl⟩ := h
    exact ⟨rfl, fun m2 => by simp [h1, h2, h3, h4, h5]⟩
  case fieldAddr s x f =>
    simp only [Option.bind_eq_some_iff, Option.map_eq_some_iff, Prod.mk.injEq] at h
    obtain ⟨l, h1, u, h2, rfl, rfl⟩ := h
    exact ⟨rfl, fun m2 => by simp [h1, h2]⟩
  case field s x f =>
    simp only [Option.bind_eq_some_iff, Option.map_eq_some_iff, Prod.mk.injEq] at h
    obtain ⟨l, h1, u, h2, rfl, rfl⟩ := h
    exact ⟨rfl, fun m2 => by simp [h1, h2]⟩
  case indexAddr t x y =>
    simp only [Option.bind_eq_some_iff, Option.map_eq_some_iff, Prod.mk.injEq] at h
    obtain ⟨l, h1, u, h2, q, h3, rfl, rfl⟩ := h
    exact ⟨rfl, fun m2 => by simp [h1, h2, h3]⟩
  case index t x y =>
    simp only [Option.bind_eq_some_iff, Option.map_eq_some_iff, Prod.mk.injEq] at h
    obtain ⟨l, h1, u, h2, q, h3, rfl, rfl⟩ := h
    exact ⟨rfl, fun m2 => by simp [h1, h2, h3]⟩
  case extract x i =>
    split at h
    · rename_i e1
      simp only [Option.map_eq_some_iff, Prod.mk.injEq] at h
      obtain ⟨u, h2, rfl, rfl⟩ := h
      exact ⟨rfl, fun m2 => by simp [e1, h2]⟩
    · cases h
theorem stepW_pure {call : CallT} {ops : Array Oper} {o : Oper} {e : Env} {m m' : Mem} {v : V} (hp : mpure o.op = true) (h : stepW T call ops e m o = some (v, m')) : m' = m ∧ ∀ m2, stepW T call ops e m2 o = some (v, m2) := by
  have hop : ∀ m, stepOp T call e m o.op = opx T e m o.op := by
    intro m
    unfold stepOp
    split
    · rename_i heq
      rw [heq] at hp
      simp [mpure] at hp
    · rfl
  unfold stepW at h ⊢
  split at h
  · rename_i hw
    rw [hop] at h
    obtain ⟨h1, h2⟩ := opx_pure hp h
    refine ⟨h1, fun m2 => ?_⟩
    rw [if_pos hw, hop]
    exact h2 m2
  · rename_i hw
    obtain ⟨rfl, rfl⟩ := Prod.mk.inj (Option.some.inj h)
    exact ⟨rfl, fun m2 => by rw [if_neg hw]⟩
theorem stepW_light {call : CallT} {ops : Array Oper} {o : Oper} {e : Env} {m m' : Mem} {v : V} (hp : heavy o.op = false) (h : stepW T call ops e m o = some (v, m')) : m' = m := by
  by_cases hm : mpure o.op = true
  · exact (stepW_pure hm h).1
  · have : ∃ t a, o.op = .load t a := by
      revert hp hm
      cases o.op <;> simp [mpure, heavy]
    obtain ⟨t, a, ho⟩ := this
    unfold stepW at h
    split at h
    · rw [ho] at h
      simp only [stepOp, opx, Option.bind_eq_some_iff, Option.map_eq_some_iff, Prod.mk.injEq] at h
      obtain ⟨l, h1, u, h2, rfl, rfl⟩ := h
      rfl
    · obtain ⟨rfl, rfl⟩ := Prod.mk.inj (Option.some.inj h)
      rfl
theorem stabAt_spec {ops : Array Oper} {j : Nat} {o : Oper} (h : stabAt ops j = true) (ho : ops[j]? = some o) : ∃ t a, o.op = .load t (.tmp a) ∧ o.guard = none ∧ ∀ (i : Nat) (o' : Oper), ops[i]? = some o' → o'.dst ≠ some a := by
  unfold stabAt at h
  split at h
  · rename_i d t a x y z heq
    rw [ho] at heq
    obtain rfl := Option.some.inj heq
    refine ⟨t, a, rfl, rfl, fun i o' hi => ?_⟩
    rw [Bool.and_eq_true] at h
    have := (Array.all_eq_true_iff_forall_mem.1 h.1) o' (Array.mem_of_getElem? hi)
    simpa using this
  · cases h
theorem stabs_mem {ops : Array Oper} {j : Nat} {o : Oper} (h : stabAt ops j = true) (ho : ops[j]? = some o) : o.op ∈ stabs ops := by
  have hj : j < ops.size := (Array.getElem?_eq_some_iff.1 ho).1
  unfold stabs
  exact List.mem_filterMap.2 ⟨j, List.mem_range.2 hj, by rw [if_pos h, ho]; rfl⟩
theorem wpOp_pure {fr : Option Nat} {fd : Nat} {call : CallT} (hT : TOk P T) {ops : Array Oper} {i : Nat} {o : Oper} {e : Env} {a : Act} {v : V} {m' : Mem} {Q : Exit → Act → World → Prop} {K : Act → World → Prop} (ho : ops[i]? = some o) (hp : mpure o.op = true ∨ heavy o.op = false)
    (hd : ∀ (j : Nat) (o' : Oper) d, ops[j]? = some o' → o'.dst = some d → d < a.tmps.size) (S : Sim ρ m w) (he : EnvOn ρ e a (o.looksAt ops)) (h : stepW T call ops e m o = some (v, m'))
    (hK : ∀ ρ' x w', Rel ρ' v x → Sim ρ' m' w' → Step ρ m w ρ' m' w' → K (a.put o.dst x) w') : wpOpIn (Fr fr) fd P ops Q i K a w := by
  unfold wpOpIn
  simp only [ho, wanted_eq he hd]
  unfold stepW at h
  split at h
  case isFalse hw =>
    rw [if_neg hw]
    obtain ⟨rfl, rfl⟩ := Prod.mk.inj (Option.some.inj h)
    exact ⟨fun _ _ => trivial, hK ρ undef w (Rel.undef _) S (Step.refl _ _ _)⟩
  case isTrue hw =>
    rw [if_pos hw]
    unfold Oper.wpIn
    refine ⟨fun _ _ => trivial, ?_⟩
    unfold stepOp at h
    split at h
    · rename_i heq
      rw [heq] at hp
      simp [mpure, heavy] at hp
    · rw [semAt_fr _ _ (opx_nodefer h)]
      obtain ⟨ρ', x, w', hrun, hx, hS, hst⟩ := opx_ok hT S he h
      rcases hrun with hrun | ⟨hrun, rfl⟩
      · rw [hrun]; exact hK ρ' x w' hx hS hst
      · rw [hrun]; exact hK ρ' undef w' hx hS hst
structure Stages (T : TT) (call : CallT) (chk : Nat → Bool × List Op) (ops : Array Oper) (n : Nat) (e : Env) (m : Mem) (e' : Env) (m' : Mem) (E : Nat → Env) (M : Nat → Mem) (W : Nat → V) : Prop where
  e0 : E 0 = e
  m0 : M 0 = m
  en : E n = e'
  mn : M n = m'
  step : ∀ k, k < n → ∃ o, ops[k]? = some o ∧ stepW T call ops (E k) (M k) o = some (W k, M (k + 1)) ∧ E (k + 1) = (E k).upd o.dst (W k) ∧ ((chk k).1 = true → M k <+: M (k + 1)) ∧ ∀ q, q ∈ (chk k).2 → loadV T (E k) (M k) q = loadV T (E k) (M (k + 1)) q
theorem chkS_bind {e : Env} {m m' : Mem} {f : Env × Mem → Option (Env × Mem)} : ∀ (l : List Op) (r : Option (Env × Mem)), (chkS T e m m' l r).bind f = chkS T e m m' l (r.bind f)
  | [], r => rfl
  | q :: l, r => by
    unfold chkS
    split
    · exact chkS_bind l r
    · rfl
theorem runOps_append {call : CallT} {chk : Nat → Bool × List Op} {ops : Array Oper} : ∀ (l l' : List Nat) (e : Env) (m : Mem), runOps T call chk ops (l ++ l') e m = (runOps T call chk ops l e m).bind fun q => runOps T call chk ops l' q.1 q.2
  | [], l', e, m => rfl
  | i :: l, l', e, m => by
    simp only [List.cons_append, runOps]
    split
    · rfl
    · split
      · rfl
      · split
        · split
          · rw [runOps_append l l', chkS_bind]
          · rfl
        · rw [runOps_append l l', chkS_bind]
theorem stages_of {call : CallT} {chk : Nat → Bool × List Op} {ops : Array Oper} : ∀ (n : Nat) {e e' : Env} {m m' : Mem}, runOps T call chk ops (List.range n) e m = some (e', m') → ∃ E M W, Stages T call chk ops n e m e' m' E M W
  | 0, e, e', m, m', h => by
    simp only [List.range_zero, runOps, Option.some.injEq, Prod.mk.injEq] at h
    obtain ⟨rfl, rfl⟩ := h
    exact ⟨fun _ => e, fun _ => m, fun _ => V.undef, rfl, rfl, rfl, rfl, fun k hk => absurd hk (by omega)⟩
  | n + 1, e, e', m, m', h => by
    rw [List.range_succ, runOps_append] at h
    simp only [Option.bind_eq_some_iff] at h
    obtain ⟨⟨e1, m1⟩, h1, h2⟩ := h
    obtain ⟨E, M, W, st⟩ := stages_of n h1
    simp only [runOps] at h2
    split at h2
    · cases h2
    rename_i o ho
    split at h2
    · cases h2
    rename_i v m2 hstep
    have h3 : ((chk n).1 = true → m1 <+: m2) ∧ (∀ q, q ∈ (chk n).2 → loadV T e1 m1 q = loadV T e1 m2 q) ∧ e1.upd o.dst v = e' ∧ m2 = m' := by
      split at h2
      · rename_i hc
        split at h2
        · rename_i hp
          obtain ⟨h2, h4⟩ := chkS_some h2
          simp only [Option.some.injEq, Prod.mk.injEq] at h2
          exact ⟨fun _ => hp, h4, h2⟩
        · cases h2
      · rename_i hc
        obtain ⟨h2, h4⟩ := chkS_some h2
        simp only [Option.some.injEq, Prod.mk.injEq] at h2
        exact ⟨fun hh => absurd hh hc, h4, h2⟩
    obtain ⟨hp, hp2, rfl, rfl⟩ := h3
    refine ⟨fun k => if k ≤ n then E k else e1.upd o.dst v, fun k => if k ≤ n then M k else m2, fun k => if k < n then W k else v, ?_, ?_, ?_, ?_, ?_⟩
    · simp [st.e0]
    · simp [st.m0]
    · exact if_neg (by omega)
    · exact if_neg (by omega)
    · intro k hk
      by_cases hkn : k < n
      · obtain ⟨o', a1, a2, a3, a4, a5⟩ := st.step k hkn
        refine ⟨o', a1, ?_⟩
        simp only [show k ≤ n from by omega, show k + 1 ≤ n from by omega, hkn, if_true]
        exact ⟨a2, a3, a4, a5⟩
      · obtain rfl : k = n := by omega
        refine ⟨o, ho, ?_⟩
        simp only [Nat.le_refl, if_true, show ¬ (k + 1 ≤ k) from by omega, Nat.lt_irrefl, if_false, st.en, st.mn]
        exact ⟨hstep, trivial, hp, hp2⟩
theorem stepW_quiet {call : CallT} {ops : Array Oper} {o : Oper} {e : Env} {v : V} {m' : Mem} (hr : risky o.op = false) (h : stepW T call ops e m o = some (v, m')) : m <+: m' := by
  unfold stepW at h
  split at h
  · unfold stepOp at h
    split at h
    · rename_i heq
      rw [heq] at hr
      simp [risky] at hr
    · exact opx_quiet hr h
  · obtain ⟨rfl, rfl⟩ := Prod.mk.inj (Option.some.inj h)
    exact List.prefix_refl _
theorem Stages.good {call : CallT} (hT : TOk P T) (hG : CallGood call) {chk : Nat → Bool × List Op} {ops : Array Oper} {n : Nat} {e e' : Env} {m m' : Mem} {E : Nat → Env} {M : Nat → Mem} {W : Nat → V} (st : Stages T call chk ops n e m e' m' E M W)
    (hs : Sc m) (he : ∀ t, (e t).bel m.length) : ∀ k, k ≤ n → Sc (M k) ∧ (∀ t, (E k t).bel (M k).length) ∧ (∀ j, j ≤ k → (M j).length ≤ (M k).length)
  | 0, _ => by
    refine ⟨by rw [st.m0]; exact hs, by rw [st.e0, st.m0]; exact he, ?_⟩
    intro j hj
    have e0 : j = 0 := by omega
    rw [e0]
    exact Nat.le_refl _
  | k + 1, hk => by
    obtain ⟨h1, h2, h3⟩ := st.good hT hG hs he k (by omega)
    obtain ⟨o, a1, a2, a3, a4, _⟩ := st.step k (by omega)
    obtain ⟨g1, g2, g3⟩ := stepW_good hT hG h1 h2 a2
    refine ⟨g2, ?_, ?_⟩
    · rw [a3]
      exact upd_bel (fun t => V.bel_mono g3 _ (h2 t)) g1
    · intro j hj
      by_cases e1 : j = k + 1
      · subst e1; exact Nat.le_refl _
      · exact Nat.le_trans (h3 j (by omega)) g3
theorem Stages.stable {call : CallT} {ops : Array Oper} {e e' : Env} {m m' : Mem} {E : Nat → Env} {M : Nat → Mem} {W : Nat → V} (st : Stages T call (chkOf true ops) ops ops.size e m e' m' E M W) {j : Nat} {o : Oper} (hs : stabAt ops j = true) (ho : ops[j]? = some o) :
    ∀ s, s ≤ ops.size → stepW T call ops (E j) (M s) o = some (W j, M s) := by
  obtain ⟨t, a, hop, hg, hd⟩ := stabAt_spec hs ho
  have hj : j < ops.size := (Array.getElem?_eq_some_iff.1 ho).1
  have hE : ∀ k, k ≤ ops.size → E k a = e a := by
    intro k
    induction k with
    | zero => intro _; rw [st.e0]
    | succ k ih =>
      intro hk
      obtain ⟨ok, b1, b2, b3, b4, b5⟩ := st.step k (by omega)
      rw [b3, ← ih (by omega)]
      have := hd k ok b1
      cases hdd : ok.dst with
      | none => rfl
      | some d =>
        rw [hdd] at this
        simp only [Env.upd]
        rw [if_neg]
        rintro rfl
        exact this rfl
  have hM : ∀ k, k ≤ ops.size → opLoad T t (e a) (M k) = opLoad T t (e a) (M 0) := by
    intro k
    induction k with
    | zero => intro _; rfl
    | succ k ih =>
      intro hk
      rw [← ih (by omega)]
      obtain ⟨ok, b1, b2, b3, b4, b5⟩ := st.step k (by omega)
      cases hh : heavy ok.op with
      | false => rw [stepW_light hh b2]
      | true =>
        have := b5 o.op (by simp only [chkOf, b1, Option.any_some, hh, Bool.and_self, if_true]; exact stabs_mem hs ho)
        rw [hop] at this
        simp only [loadV, hE k (by omega)] at this
        exact this.symm
  obtain ⟨oj, b1, b2, b3, b4, b5⟩ := st.step j hj
  rw [ho] at b1
  obtain rfl := Option.some.inj b1
  intro s hs'
  have hw : wantedE ops o (E j) = true := by simp [wantedE, hg]
  unfold stepW at b2 ⊢
  rw [if_pos hw, hop] at b2 ⊢
  simp only [stepOp, opx, evo, Option.bind_some, Option.map_eq_some_iff, Prod.mk.injEq, hE j (by omega)] at b2 ⊢
  obtain ⟨u, h2, rfl, h3⟩ := b2
  rw [hM s hs', ← hM j (by omega)]
  simp [h2]
theorem prefix_get {m m' : Mem} (h : m <+: m') {b : Nat} (hb : b < m.length) : m'[b]? = m[b]? := by
  obtain ⟨r, rfl⟩ := h
  rw [List.getElem?_append_left hb]
theorem Sim.restrict {m1 : Mem} (S : Sim ρ m w) (hp : m1 <+: m) (hs : Sc m1) : Sim (ρ.res m1.length) m1 w where
  dom b p h := by
    obtain ⟨h1, h2⟩ := Rho.res_some.1 h
    exact ⟨h1, (S.dom b p h2).2⟩
  cell b p k h hk hst i v hv := by
    obtain ⟨h1, h2⟩ := Rho.res_some.1 h
    obtain ⟨a, x, hx, hr⟩ := S.cell b p k h2 (by rw [prefix_get hp h1]; exact hk) hst i v hv
    exact ⟨a, x, hx, hr.res _ _ (hs.get hk (List.mem_of_getElem? hv))⟩
  own b p k h hk hst := by
    obtain ⟨h1, h2⟩ := Rho.res_some.1 h
    exact S.own b p k h2 (by rw [prefix_get hp h1]; exact hk) hst
  apart b p k b' p' k' h hk hst h' hk' hst' e := by
    obtain ⟨h1, h2⟩ := Rho.res_some.1 h
    obtain ⟨h1', h2'⟩ := Rho.res_some.1 h'
    exact S.apart b p k b' p' k' h2 (by rw [prefix_get hp h1]; exact hk) hst h2' (by rw [prefix_get hp h1']; exact hk') hst' e
end Go.Proofs.YtefjnnghfloddaaGreat.Abs

/- The executor is sound: a region whose order is open, in whatever order. -/
namespace Go.Proofs.YtefjnnghfloddaaGreat.Abs
set_option linter.unusedVariables false
set_option linter.unusedSimpArgs false
variable {P : Program} {T : TT}
def vals (ops : Array Oper) (S : Nat → Bool) (W : Nat → V) (e : Env) : Nat → Env
  | 0 => e
  | i + 1 => if S i then (vals ops S W e i).upd ((ops[i]?).bind (·.dst)) (W i) else vals ops S W e i
theorem exists_next (p : Nat → Bool) : ∀ (d k n : Nat), n - k = d → k ≤ n → ∃ k', k ≤ k' ∧ k' ≤ n ∧ (k' < n → p k' = true) ∧ ∀ i, k ≤ i → i < k' → p i = false
  | 0, k, n, hd, hk => ⟨k, Nat.le_refl _, hk, fun h => by omega, fun i h1 h2 => by omega⟩
  | d + 1, k, n, hd, hk => by
    cases hp : p k with
    | true => exact ⟨k, Nat.le_refl _, hk, fun _ => hp, fun i h1 h2 => by omega⟩
    | false =>
      obtain ⟨k', h1, h2, h3, h4⟩ := exists_next p d (k + 1) n (by omega) (by omega)
      refine ⟨k', by omega, h2, h3, fun i h5 h6 => ?_⟩
      by_cases e : i = k
      · subst e; exact hp
      · exact h4 i (by omega) h6
theorem chain {M : Nat → Mem} {a : Nat} : ∀ (d : Nat), (∀ i, a ≤ i → i < a + d → M i <+: M (i + 1)) → M a <+: M (a + d)
  | 0, _ => List.prefix_refl _
  | d + 1, h => (chain d (fun i h1 h2 => h i h1 (by omega))).trans (h (a + d) (by omega) (by omega))
theorem Sim.extend {ρ : Rho} {m m2 : Mem} {w : World} (S : Sim ρ m w) (hp : m <+: m2) : Sim ρ m2 w where
  dom b p h := ⟨Nat.lt_of_lt_of_le (S.dom b p h).1 hp.length_le, (S.dom b p h).2⟩
  cell b p k h hk := S.cell b p k h (by rw [← prefix_get hp (S.dom b p h).1]; exact hk)
  own b p k h hk := S.own b p k h (by rw [← prefix_get hp (S.dom b p h).1]; exact hk)
  apart b p k b' p' k' h hk hst h' hk' := S.apart b p k b' p' k' h (by rw [← prefix_get hp (S.dom b p h).1]; exact hk) hst h' (by rw [← prefix_get hp (S.dom b' p' h').1]; exact hk')
theorem Step.extend {ρ ρ1 : Rho} {m m1 m2 : Mem} {w w1 : World} (h : Step ρ m w ρ1 m1 w1) (S : Sim ρ1 m1 w1) (hp : m1 <+: m2) : Step ρ m w ρ1 m2 w1 where
  ext := h.ext
  len := Nat.le_trans h.len hp.length_le
  size := h.size
  keep B hB hn := by
    obtain ⟨a, b⟩ := h.keep B hB hn
    refine ⟨a, ?_⟩
    rintro ⟨c, p, k, h1, h2, h3, h4⟩
    exact b ⟨c, p, k, h1, by rw [← prefix_get hp (S.dom c p h1).1]; exact h2, h3, h4⟩
  os := h.os
  tape := h.tape
  output := h.output
  st b k' hb hk hst := h.st b k' hb (by rw [← prefix_get hp (Nat.lt_of_lt_of_le hb h.len)]; exact hk) hst
  new b p k hb hp' hk hst := h.new b p k hb hp' (by rw [← prefix_get hp (S.dom b p hp').1]; exact hk) hst
structure Inv (ds : List Deferred) (ops : Array Oper) (N : Nat) (e : Env) (M : Nat → Mem) (W : Nat → V) (ρ0 : Rho) (w0 : World) (listed : Array Bool) (ρ : Rho) (k : Nat) (a : Act) (w : World) : Prop where
  lsz : listed.size = ops.size
  closed : Closed ops (fun i => listed.getD i false = true)
  kn : k ≤ ops.size
  kord : k < ops.size → ordOk ops k = true ∧ listed.getD k false = false
  below : ∀ i, i < k → ordOk ops i = true → listed.getD i false = true
  above : ∀ i, listed.getD i false = true → pureAt ops i = false → i < k
  sim : Sim ρ (M k) w
  dom : ∀ b p, ρ b = some p → b < (M 0).length ∨ ∃ i, i < ops.size ∧ listed.getD i false = true ∧ (M i).length ≤ b ∧ b < (M (i + 1)).length
  size : a.tmps.size = N
  defers : a.defers = ds
  vals : ∀ t, Rel ρ (vals ops (fun i => listed.getD i false) W e ops.size t) (a.tmps.getD t undef)
  step : Step ρ0 (M 0) w0 ρ (M k) w
section
variable {ops : Array Oper} {N : Nat} {e e' : Env} {m m' : Mem} {E : Nat → Env} {M : Nat → Mem} {W : Nat → V} {call : CallT} {chk : Nat → Bool × List Op}
theorem Stages.nonord (st : Stages T call (chkOf true ops) ops ops.size e m e' m' E M W) {i : Nat} (hi : i < ops.size) (ho : ordOk ops i = false) : M i <+: M (i + 1) := by
  obtain ⟨o, h1, h2, h3, h4, _⟩ := st.step i hi
  cases hr : risky o.op with
  | false => exact stepW_quiet hr h2
  | true => exact h4 (by simp [chkOf, h1, hr, ho])
theorem vals_ready (hreg : regOk ops = true) (st : Stages T call chk ops ops.size e m e' m' E M W) {S : Nat → Bool} (hS : Closed ops (fun i => S i = true)) {j : Nat} {o : Oper} (ho : ops[j]? = some o)
    (hj : S j = false) (hr : ∀ ed ∈ o.after, Region.binds .any ed = true → S ed.on = true) {t : Tmp} (ht : t ∈ o.looksAt ops ∨ o.dst = some t) :
    ∀ i, i ≤ ops.size → Abs.vals ops S W e i t = E (min i j) t
  | 0, _ => by simp [Abs.vals, st.e0]
  | i + 1, hi => by
    have ih := vals_ready hreg st hS ho hj hr ht i (by omega)
    obtain ⟨oi, h1, h2, h3, h4, _⟩ := st.step i (by omega)
    have hcomp : ∀ t', oi.dst = some t' → t' = t → i ≠ j → comp (befs ops) i j = true := fun t' hd e1 hne => regOk_comp hreg h1 ho (e1 ▸ hd) hne ht
    simp only [Abs.vals]
    by_cases hij : i < j
    · rw [show min (i + 1) j = i + 1 by omega, h3]
      rw [show min i j = i by omega] at ih
      cases hSi : S i with
      | true =>
        simp only [if_true]
        rw [h1]
        simp only [Option.bind_some]
        cases hd : oi.dst with
        | none => exact ih
        | some d =>
          simp only [Env.upd]
          split
          · rfl
          · exact ih
      | false =>
        simp only [Bool.false_eq_true, if_false]
        cases hd : oi.dst with
        | none => exact ih
        | some d =>
          simp only [Env.upd]
          split
          · rename_i e1
            exfalso
            have hc := hcomp d hd e1.symm (by omega)
            unfold comp at hc
            rw [if_pos hij] at hc
            have := ready_bit hS ho hr hc
            rw [hSi] at this
            cases this
          · exact ih
    · rw [show min (i + 1) j = j by omega]
      rw [show min i j = j by omega] at ih
      cases hSi : S i with
      | false => simp only [Bool.false_eq_true, if_false]; exact ih
      | true =>
        simp only [if_true]
        rw [h1]
        simp only [Option.bind_some]
        cases hd : oi.dst with
        | none => exact ih
        | some d =>
          simp only [Env.upd]
          split
          · rename_i e1
            exfalso
            have hne : i ≠ j := fun e2 => by rw [e2, hj] at hSi; cases hSi
            have hc := hcomp d hd e1.symm hne
            unfold comp at hc
            rw [if_neg hij] at hc
            have := closed_bit hS i j hSi hc
            rw [hj] at this
            cases this
          · exact ih
theorem vals_put (hreg : regOk ops = true) (st : Stages T call chk ops ops.size e m e' m' E M W) {S S' : Nat → Bool} (hS : Closed ops (fun i => S i = true)) {j : Nat} {o : Oper} (ho : ops[j]? = some o)
    (hj : S j = false) (hS' : ∀ i, S' i = (S i || decide (i = j))) : ∀ i, i ≤ ops.size → Abs.vals ops S' W e i = if j < i then (Abs.vals ops S W e i).upd o.dst (W j) else Abs.vals ops S W e i
  | 0, _ => by simp [Abs.vals]
  | i + 1, hi => by
    have ih := vals_put hreg st hS ho hj hS' i (by omega)
    obtain ⟨oi, h1, h2, h3, h4, _⟩ := st.step i (by omega)
    simp only [Abs.vals, ih, hS' i]
    by_cases hij : i = j
    · subst hij
      simp only [Nat.lt_irrefl, if_false, Nat.lt_succ_self, if_true, hj, Bool.false_or, decide_true, ho, Option.bind_some, Bool.false_eq_true]
    · by_cases hlt : j < i
      · simp only [hlt, show j < i + 1 from by omega, if_true, hij, decide_false, Bool.or_false]
        cases hSi : S i with
        | false => simp
        | true =>
          simp only [if_true]
          rw [h1]
          simp only [Option.bind_some]
          funext t
          cases hd : oi.dst with
          | none => rfl
          | some d =>
            cases hd' : o.dst with
            | none => rfl
            | some d' =>
              simp only [Env.upd]
              by_cases e1 : t = d
              · by_cases e2 : t = d'
                · exfalso
                  have hc := regOk_comp hreg h1 ho hd (by omega) (.inr (by rw [hd', ← e2, e1]))
                  unfold comp at hc
                  rw [if_neg (by omega)] at hc
                  have := closed_bit hS i j hSi hc
                  rw [hj] at this
                  cases this
                · simp [e2]
              · simp [e1]
      · simp only [hlt, show ¬ (j < i + 1) from by omega, if_false, hij, decide_false, Bool.or_false]
theorem vals_all (st : Stages T call chk ops ops.size e m e' m' E M W) {S : Nat → Bool} (hS : ∀ i, i < ops.size → S i = true) : ∀ i, i ≤ ops.size → Abs.vals ops S W e i = E i
  | 0, _ => by simp [Abs.vals, st.e0]
  | i + 1, hi => by
    obtain ⟨oi, h1, h2, h3, h4, _⟩ := st.step i (by omega)
    simp only [Abs.vals, hS i (by omega), if_true, vals_all st hS i (by omega), h1, h3, Option.bind_some]
end
def left (listed : Array Bool) : Nat → Nat
  | 0 => 0
  | n + 1 => left listed n + if listed.getD n false then 0 else 1
theorem left_set {listed : Array Bool} {j : Nat} (hj : j < listed.size) (h0 : listed.getD j false = false) : ∀ n, left (listed.setIfInBounds j true) n + (if j < n then 1 else 0) = left listed n
  | 0 => by simp [left]
  | n + 1 => by
    have ih := left_set hj h0 n
    simp only [left]
    by_cases e1 : n = j
    · subst e1
      have : (listed.setIfInBounds n true).getD n false = true := by simp [Array.getD_eq_getD_getElem?, hj]
      simp only [Nat.lt_irrefl, if_false, Nat.add_zero] at ih
      simp only [this, h0, if_true, Nat.lt_succ_self, Bool.false_eq_true, if_false]
      omega
    · have : (listed.setIfInBounds j true).getD n false = listed.getD n false := getD_set_ne false (Ne.symm e1)
      rw [this]
      by_cases e2 : j < n
      · simp only [e2, if_true] at ih; simp only [show j < n + 1 from by omega, if_true]; omega
      · simp only [e2, if_false] at ih; simp only [show ¬ (j < n + 1) from by omega, if_false]; omega
theorem left_zero {listed : Array Bool} : ∀ {n : Nat}, left listed n = 0 → ∀ i, i < n → listed.getD i false = true
  | n + 1, h, i, hi => by
    simp only [left] at h
    by_cases e1 : i = n
    · subst e1
      cases hh : listed.getD i false with
      | true => rfl
      | false => rw [hh] at h; simp at h
    · exact left_zero (n := n) (by omega) i (by omega)
theorem getD_default {listed : Array Bool} {i : Nat} (h : i < listed.size) (a b : Bool) : listed.getD i a = listed.getD i b := by
  simp [Array.getD_eq_getD_getElem?, h]
theorem any_sound {fr : Option Nat} {fd : Nat} {ds : List Deferred} {call : CallT} (hT : TOk P T) (hC : CallSound P call) (hG : CallGood call) {ops : Array Oper} {N : Nat} (hN : dstOk N ops = true) (hreg : regOk ops = true) {Q : Exit → Act → World → Prop} {e e' : Env} {m m' : Mem} {E : Nat → Env} {M : Nat → Mem} {W : Nat → V}
    (st : Stages T call (chkOf true ops) ops ops.size e m e' m' E M W) (hs : Sc m) (he : ∀ t, (e t).bel m.length) {ρ0 : Rho} {w0 : World}
    (hQ : ∀ ρ' a' w', ER ds ρ' N e' a' → Sim ρ' m' w' → Step ρ0 m w0 ρ' m' w' → Q .normal a' w') :
    ∀ (fuel : Nat) (listed : Array Bool) (ρ : Rho) (k : Nat) (a : Act) (w : World), Inv ds ops N e M W ρ0 w0 listed ρ k a w → left listed ops.size = fuel → wpAnyIn (Fr fr) fd P .any ops Q fuel listed a w := by
  have fin : ∀ (listed : Array Bool) (ρ : Rho) (k : Nat) (a : Act) (w : World), Inv ds ops N e M W ρ0 w0 listed ρ k a w → (∀ i, i < ops.size → listed.getD i false = true) → Q .normal a w := by
    intro listed ρ k a w I hall
    have hk : k = ops.size := by
      rcases Nat.lt_or_ge k ops.size with h | h
      · have := (I.kord h).2; rw [hall k h] at this; cases this
      · have := I.kn; omega
    subst hk
    have hv := I.vals
    rw [vals_all st hall _ (Nat.le_refl _), st.en] at hv
    have h1 := I.sim
    have h2 := I.step
    rw [st.mn] at h1 h2
    rw [st.m0] at h2
    exact hQ ρ a w ⟨I.size, hv, I.defers⟩ h1 h2
  have empty : ∀ (listed : Array Bool), listed.size = ops.size → Region.ready .any ops listed = [] → ∀ i, i < ops.size → listed.getD i false = true := by
    intro listed hl hr i
    induction i using Nat.strongRecOn with
    | _ i ih =>
      intro hi
      cases hh : listed.getD i false with
      | true => rfl
      | false =>
        exfalso
        have hm : i ∈ Region.ready .any ops listed := by
          refine mem_ready.2 ⟨by rw [getD_default (by omega) true false]; exact hh, ops[i], by simp [hi], fun ed hed hb => ?_⟩
          have := regOk_edge hreg (j := i) (o := ops[i]) (by simp [hi]) ed hed hb
          exact ih ed.on this (by omega)
        rw [hr] at hm
        cases hm
  intro fuel
  induction fuel with
  | zero =>
    intro listed ρ k a w I hl
    have hall := left_zero hl
    refine ⟨?_, fin listed ρ k a w I hall⟩
    cases hr : Region.ready .any ops listed with
    | nil => rfl
    | cons j r =>
      exfalso
      have hm : j ∈ Region.ready .any ops listed := by rw [hr]; simp
      obtain ⟨h1, o, ho, _⟩ := mem_ready.1 hm
      have hj : j < ops.size := (Array.getElem?_eq_some_iff.1 ho).1
      rw [getD_default (by rw [I.lsz]; exact hj) true false, hall j hj] at h1
      cases h1
  | succ fuel ih =>
    intro listed ρ k a w I hl
    refine ⟨fun hr => fin listed ρ k a w I (empty listed I.lsz hr), ?_⟩
    intro j hj
    obtain ⟨h1, o, ho, hready⟩ := mem_ready.1 hj
    have hjn : j < ops.size := (Array.getElem?_eq_some_iff.1 ho).1
    have hjl : j < listed.size := by rw [I.lsz]; exact hjn
    have hun : listed.getD j false = false := by rw [getD_default hjl false true]; exact h1
    obtain ⟨o', q1, q2, q3, q4, _⟩ := st.step j hjn
    rw [ho] at q1
    obtain rfl := Option.some.inj q1
    obtain ⟨sc, bel, mono⟩ := st.good hT hG hs he j (by omega)
    have monoN : ∀ i i', i ≤ i' → i' ≤ ops.size → (M i).length ≤ (M i').length := fun i i' h h' => (st.good hT hG hs he i' h').2.2 i h
    -- where j stands
    have hjk0 : pureAt ops j = false → j ≤ k := by
      intro hpu
      rcases Nat.lt_or_ge k j with h | h
      · exfalso
        obtain ⟨b1, b2⟩ := I.kord (by omega)
        have hc := ordOk_comp b1 hjn (by omega) hpu
        unfold comp at hc
        rw [if_pos h] at hc
        have := ready_bit I.closed ho hready hc
        rw [b2] at this; cases this
      · exact h
    have noord : pureAt ops j = false → ∀ i, j ≤ i → i < k → ordOk ops j = false → ordOk ops i = false := by
      intro hpu i h2 h3 hjo
      cases hh : ordOk ops i with
      | false => rfl
      | true =>
        exfalso
        have hi := I.below i h3 hh
        have hne : j ≠ i := fun e1 => by rw [← e1, hun] at hi; cases hi
        have hc := ordOk_comp hh hjn hne hpu
        unfold comp at hc
        rw [if_neg (by omega)] at hc
        have := closed_bit I.closed i j hi hc
        rw [hun] at this; cases this
    -- the new set
    have hset : ∀ i, (listed.setIfInBounds j true).getD i false = (listed.getD i false || decide (i = j)) := by
      intro i
      by_cases e1 : i = j
      · subst e1; simp [Array.getD_eq_getD_getElem?, hjl]
      · rw [getD_set_ne false (Ne.symm e1)]; simp [e1]
    have hclosed' : Closed ops (fun i => (listed.setIfInBounds j true).getD i false = true) := by
      intro i oi hi hoi ed hed hb
      simp only [hset, Bool.or_eq_true, decide_eq_true_eq] at hi ⊢
      rcases hi with hi | rfl
      · exact .inl (I.closed i oi hi hoi ed hed hb)
      · rw [ho] at hoi
        obtain rfl := Option.some.inj hoi
        exact .inl (hready ed hed hb)
    have hleft : left (listed.setIfInBounds j true) ops.size = fuel := by
      have := left_set hjl hun ops.size
      rw [if_pos hjn] at this
      omega
    have hvals' : ∀ {ρ' : Rho} {x : Value}, ρ.le ρ' → Rel ρ' (W j) x → ∀ t, Rel ρ' (Abs.vals ops (fun i => (listed.setIfInBounds j true).getD i false) W e ops.size t) ((a.put o.dst x).tmps.getD t undef) := by
      intro ρ' x hle hx t
      rw [vals_put hreg st I.closed ho hun hset _ (Nat.le_refl _), if_pos hjn]
      have hER : ER ds ρ' N (Abs.vals ops (fun i => listed.getD i false) W e ops.size) a := ⟨I.size, fun t => (I.vals t).mono hle, I.defers⟩
      exact (hER.put (fun t ht => dstOk_spec hN j o t ho ht) hx).rel t
    have hput : ∀ x, (a.put o.dst x).tmps.size = N ∧ (a.put o.dst x).defers = ds := by
      intro x
      cases o.dst <;> simp [Act.put, I.size, I.defers]
    have hjlen := monoN j (j + 1) (by omega) (by omega)
    by_cases hpu : pureAt ops j = true
    · -- an operation on slots alone
      have hmp : (mpure o.op = true ∨ heavy o.op = false) ∧ stepW T call ops (E j) (M k) o = some (W j, M k) := by
        rw [pureAt, ho, Option.any_some, Bool.or_eq_true] at hpu
        rcases hpu with h | h
        · exact ⟨.inl h, (stepW_pure h q2).2 _⟩
        · obtain ⟨t, a, hop, _, _⟩ := stabAt_spec h ho
          exact ⟨.inr (by rw [hop]; rfl), st.stable h ho k I.kn⟩
      obtain ⟨hmp, hany⟩ := hmp
      have hEn : EnvOn ρ (E j) a (o.looksAt ops) := by
        intro t ht
        have := I.vals t
        rw [vals_ready hreg st I.closed ho hun hready (.inl ht) _ (Nat.le_refl _), show min ops.size j = j by omega] at this
        exact this
      refine wpOp_pure hT ho hmp (fun i o1 d h2 h3 => by rw [I.size]; exact dstOk_spec hN i o1 d h2 h3) I.sim hEn hany ?_
      intro ρ1 x w1 hx S1 st1
      refine ih _ ρ1 k _ w1 ⟨by simp [I.lsz], hclosed', I.kn, fun h2 => ⟨(I.kord h2).1, ?_⟩, ?_, ?_, S1, ?_, (hput x).1, (hput x).2, hvals' (st1.le I.sim.dom) hx, I.step.trans st1⟩ hleft
      · rw [hset, (I.kord h2).2]
        have hne : k ≠ j := by
          rintro rfl
          rw [ordOk_pure (I.kord h2).1] at hpu; cases hpu
        simp [hne]
      · intro i h2 h3
        rw [hset, I.below i h2 h3]; rfl
      · intro i h2 h3
        rw [hset] at h2
        simp only [Bool.or_eq_true, decide_eq_true_eq] at h2
        rcases h2 with h2 | rfl
        · exact I.above i h2 h3
        · rw [hpu] at h3; cases h3
      · intro b p hb
        rw [st1.ext b (S1.dom b p hb).1] at hb
        rcases I.dom b p hb with h2 | ⟨i, h2, h3, h4⟩
        · exact .inl h2
        · exact .inr ⟨i, h2, by rw [hset, h3]; rfl, h4⟩
    have hpu : pureAt ops j = false := by simpa using hpu
    have hjk := hjk0 hpu
    have noord := noord hpu
    by_cases hjo : ordOk ops j = true
    · -- an operation that all others are ordered against
      have hje : j = k := by
        rcases Nat.lt_or_ge j k with h | h
        · have := I.below j h hjo; rw [hun] at this; cases this
        · omega
      subst hje
      have hall : ∀ i, i < j → pureAt ops i = false → listed.getD i false = true := by
        intro i hi hpi
        have hc := ordOk_comp hjo (j := i) (by omega) (by omega) hpi
        unfold comp at hc
        rw [if_neg (by omega)] at hc
        exact ready_bit I.closed ho hready hc
      have hEn : EnvOn ρ (E j) a (o.looksAt ops) := by
        intro t ht
        have := I.vals t
        rw [vals_ready hreg st I.closed ho hun hready (.inl ht) _ (Nat.le_refl _), show min ops.size j = j by omega] at this
        exact this
      refine wpOp_abs hT hC ho (fun i o1 d h2 h3 => by rw [I.size]; exact dstOk_spec hN i o1 d h2 h3) I.sim sc bel hEn q2 ?_
      intro ρ1 x w1 hx S1 st1
      obtain ⟨k', c1, c2, c3, c4⟩ := exists_next (ordOk ops) _ (j + 1) ops.size rfl (by omega)
      have hpre : M (j + 1) <+: M k' := by
        have := chain (M := M) (a := j + 1) (k' - (j + 1)) (fun i h2 h3 => st.nonord (by omega) (c4 i h2 (by omega)))
        rwa [show j + 1 + (k' - (j + 1)) = k' by omega] at this
      refine ih _ ρ1 k' _ w1 ⟨by simp [I.lsz], hclosed', c2, fun h2 => ⟨c3 h2, ?_⟩, ?_, ?_, S1.extend hpre, ?_, (hput x).1, (hput x).2, hvals' (st1.le I.sim.dom) hx, (I.step.trans st1).extend S1 hpre⟩ hleft
      · rw [hset]
        simp only [Bool.or_eq_false_iff, decide_eq_false_iff_not]
        refine ⟨?_, by omega⟩
        cases hh : listed.getD k' false with
        | false => rfl
        | true => have := I.above k' hh (ordOk_pure (c3 h2)); omega
      · intro i h2 h3
        rw [hset]
        simp only [Bool.or_eq_true, decide_eq_true_eq]
        rcases Nat.lt_or_ge i j with h4 | h4
        · exact .inl (hall i h4 (ordOk_pure h3))
        · by_cases e1 : i = j
          · exact .inr e1
          · rw [c4 i (by omega) h2] at h3; cases h3
      · intro i h2 h2p
        rw [hset] at h2
        simp only [Bool.or_eq_true, decide_eq_true_eq] at h2
        rcases h2 with h2 | rfl
        · have := I.above i h2 h2p; omega
        · omega
      · intro b p hb
        by_cases hlt : b < (M j).length
        · rw [st1.ext b hlt] at hb
          rcases I.dom b p hb with h2 | ⟨i, h2, h3, h4⟩
          · exact .inl h2
          · exact .inr ⟨i, h2, by rw [hset, h3]; rfl, h4⟩
        · exact .inr ⟨j, hjn, by rw [hset]; simp, by omega, (S1.dom b p hb).1⟩
    · -- an operation that only makes memory
      have hjo : ordOk ops j = false := by simpa using hjo
      have hjk' : j < k := by
        rcases Nat.lt_or_ge j k with h | h
        · exact h
        · have e1 : j = k := by omega
          subst e1
          have := (I.kord hjn).1; rw [hjo] at this; cases this
      have hpre1 : M j <+: M (j + 1) := st.nonord hjn hjo
      have hpre2 : M (j + 1) <+: M k := by
        have := chain (M := M) (a := j + 1) (k - (j + 1)) (fun i h2 h3 => st.nonord (by have := I.kn; omega) (noord i (by omega) (by omega) hjo))
        rwa [show j + 1 + (k - (j + 1)) = k by omega] at this
      have hpre : M j <+: M k := hpre1.trans hpre2
      have Sj := I.sim.restrict hpre sc
      have hEn : EnvOn (ρ.res (M j).length) (E j) a (o.looksAt ops) := by
        intro t ht
        have := I.vals t
        rw [vals_ready hreg st I.closed ho hun hready (.inl ht) _ (Nat.le_refl _), show min ops.size j = j by omega] at this
        exact this.res _ _ (bel t)
      refine wpOp_abs hT hC ho (fun i o1 d h2 h3 => by rw [I.size]; exact dstOk_spec hN i o1 d h2 h3) Sj sc bel hEn q2 ?_
      intro ρ1 x w1 hx S1 st1
      have knone : ∀ b, (M j).length ≤ b → b < (M (j + 1)).length → ρ b = none := by
        intro b h2 h3
        cases hb : ρ b with
        | none => rfl
        | some p =>
          exfalso
          rcases I.dom b p hb with h4 | ⟨i, h4, h5, h6, h7⟩
          · have := monoN 0 j (by omega) (by omega); omega
          · rcases Nat.lt_trichotomy i j with h8 | rfl | h8
            · have := monoN (i + 1) j (by omega) (by omega); omega
            · rw [hun] at h5; cases h5
            · have := monoN (j + 1) i (by omega) (by omega); omega
      let ρ' : Rho := fun b => if (M j).length ≤ b ∧ b < (M (j + 1)).length then ρ1 b else ρ b
      have in' : ∀ b, (M j).length ≤ b → b < (M (j + 1)).length → ρ' b = ρ1 b := fun b h2 h3 => if_pos ⟨h2, h3⟩
      have out' : ∀ b, ¬ ((M j).length ≤ b ∧ b < (M (j + 1)).length) → ρ' b = ρ b := fun b h2 => if_neg h2
      have low : ∀ b, b < (M j).length → ρ1 b = ρ b := by
        intro b hb
        rw [st1.ext b hb]
        unfold Rho.res
        rw [if_pos hb]
      have le1 : ρ1.le ρ' := by
        intro b p hb
        have hlt := (S1.dom b p hb).1
        by_cases h2 : (M j).length ≤ b
        · rw [in' b h2 hlt]; exact hb
        · rw [out' b (by omega), ← low b (by omega)]; exact hb
      have le0 : ρ.le ρ' := by
        intro b p hb
        by_cases h2 : (M j).length ≤ b ∧ b < (M (j + 1)).length
        · rw [knone b h2.1 h2.2] at hb; cases hb
        · rw [out' b h2]; exact hb
      -- a place of the new placing: of the operation's memory, or made by a later operation
      have parts : ∀ b p, ρ' b = some p → (b < (M (j + 1)).length ∧ ρ1 b = some p) ∨ ((M (j + 1)).length ≤ b ∧ ρ b = some p) := by
        intro b p hb
        by_cases h2 : (M j).length ≤ b ∧ b < (M (j + 1)).length
        · rw [in' b h2.1 h2.2] at hb; exact .inl ⟨h2.2, hb⟩
        · rw [out' b h2] at hb
          by_cases h3 : b < (M j).length
          · exact .inl ⟨by omega, by rw [low b h3]; exact hb⟩
          · exact .inr ⟨by omega, hb⟩
      -- what a later operation made is untouched
      have later : ∀ b p kb, (M (j + 1)).length ≤ b → ρ b = some p → (M k)[b]? = some kb → kb.st ≠ 0 → w1.heap[p.B]? = w.heap[p.B]? ∧ ¬ Own ρ1 (M (j + 1)) p.B := by
        intro b p kb h2 h3 h4 h5
        refine st1.keep p.B (I.sim.dom b p h3).2 ?_
        rintro ⟨c, pc, kc, d1, d2, d3, d4⟩
        obtain ⟨d5, d6⟩ := Rho.res_some.1 d1
        have := I.sim.apart c pc kc b p kb d6 (by rw [prefix_get hpre d5]; exact d2) d3 h3 h4 h5 d4
        omega
      have hk1 : ∀ b, b < (M (j + 1)).length → (M k)[b]? = (M (j + 1))[b]? := fun b hb => prefix_get hpre2 hb
      have S' : Sim ρ' (M k) w1 := by
        refine ⟨?_, ?_, ?_, ?_⟩
        · intro b p hb
          rcases parts b p hb with ⟨h2, h3⟩ | ⟨h2, h3⟩
          · have := S1.dom b p h3
            exact ⟨Nat.lt_of_lt_of_le this.1 hpre2.length_le, this.2⟩
          · have := I.sim.dom b p h3
            exact ⟨this.1, Nat.lt_of_lt_of_le this.2 st1.size⟩
        · intro b p kb hb hkb hst i v hv
          rcases parts b p hb with ⟨h2, h3⟩ | ⟨h2, h3⟩
          · rw [hk1 b h2] at hkb
            obtain ⟨h4, y, hy, hr⟩ := S1.cell b p kb h3 hkb hst i v hv
            exact ⟨h4, y, hy, hr.mono le1⟩
          · obtain ⟨h4, y, hy, hr⟩ := I.sim.cell b p kb h3 hkb hst i v hv
            exact ⟨h4, y, by rw [cell_congr (later b p kb h2 h3 hkb hst).1]; exact hy, hr.mono le0⟩
        · intro b p kb hb hkb hst
          rcases parts b p hb with ⟨h2, h3⟩ | ⟨h2, h3⟩
          · rw [hk1 b h2] at hkb
            exact S1.own b p kb h3 hkb hst
          · obtain ⟨h4, h5, arr, ty, h6, h7⟩ := I.sim.own b p kb h3 hkb hst
            exact ⟨h4, h5, arr, ty, (later b p kb h2 h3 hkb (by omega)).1.trans h6, h7⟩
        · intro b p kb b2 p2 kb2 hb hkb hst hb2 hkb2 hst2 e1
          rcases parts b p hb with ⟨h2, h3⟩ | ⟨h2, h3⟩
          · rcases parts b2 p2 hb2 with ⟨h4, h5⟩ | ⟨h4, h5⟩
            · rw [hk1 b h2] at hkb
              rw [hk1 b2 h4] at hkb2
              exact S1.apart b p kb b2 p2 kb2 h3 hkb hst h5 hkb2 hst2 e1
            · exfalso
              refine (later b2 p2 kb2 h4 h5 hkb2 hst2).2 ⟨b, p, kb, h3, ?_, hst, e1⟩
              rw [← hk1 b h2]; exact hkb
          · rcases parts b2 p2 hb2 with ⟨h4, h5⟩ | ⟨h4, h5⟩
            · exfalso
              rw [hk1 b2 h4] at hkb2
              obtain ⟨h6, h7⟩ := later b p kb h2 h3 hkb (by omega)
              by_cases hlow : b2 < (M j).length
              · rw [low b2 hlow] at h5
                have := I.sim.apart b p kb b2 p2 kb2 h3 hkb hst h5 (by rw [hk1 b2 h4]; exact hkb2) hst2 e1
                omega
              · -- b2 is new: it is the run's own, or gone
                have hB : p2.B < w.heap.size := by rw [← e1]; exact (I.sim.dom b p h3).2
                by_cases hst3 : kb2.st = 2
                · exact h7 ⟨b2, p2, kb2, h5, hkb2, hst3, e1.symm⟩
                · -- a block that is neither own nor gone was not made
                  exact absurd (st1.new b2 p2 kb2 (by omega) h5 hkb2 hst2) hst3
            · exact I.sim.apart b p kb b2 p2 kb2 h3 hkb hst h5 hkb2 hst2 e1
      have step' : Step ρ0 (M 0) w0 ρ' (M k) w1 := by
        refine ⟨?_, I.step.len, Nat.le_trans I.step.size st1.size, ?_, st1.os.trans I.step.os, st1.tape.trans I.step.tape, st1.output.trans I.step.output, I.step.st, ?_⟩
        · intro b hb
          have := monoN 0 j (by omega) (by omega)
          rw [out' b (by omega)]
          exact I.step.ext b hb
        · intro B hB hno
          obtain ⟨h2, h3⟩ := I.step.keep B hB hno
          have h4 : ¬ Own (ρ.res (M j).length) (M j) B := by
            rintro ⟨c, pc, kc, d1, d2, d3, d4⟩
            obtain ⟨d5, d6⟩ := Rho.res_some.1 d1
            exact h3 ⟨c, pc, kc, d6, by rw [prefix_get hpre d5]; exact d2, d3, d4⟩
          obtain ⟨h5, h6⟩ := st1.keep B (Nat.lt_of_lt_of_le hB I.step.size) h4
          refine ⟨h5.trans h2, ?_⟩
          rintro ⟨c, pc, kc, d1, d2, d3, d4⟩
          rcases parts c pc d1 with ⟨d5, d6⟩ | ⟨d5, d6⟩
          · exact h6 ⟨c, pc, kc, d6, by rw [← hk1 c d5]; exact d2, d3, d4⟩
          · exact h3 ⟨c, pc, kc, d6, d2, d3, d4⟩
        · intro b p kb hb hp hk hst
          rcases parts b p hp with ⟨d5, d6⟩ | ⟨d5, d6⟩
          · by_cases hlow : b < (M j).length
            · rw [low b hlow] at d6
              exact I.step.new b p kb hb d6 hk hst
            · exact st1.new b p kb (by omega) d6 (by rw [← hk1 b d5]; exact hk) hst
          · exact I.step.new b p kb hb d6 hk hst
      refine ih _ ρ' k _ w1 ⟨by simp [I.lsz], hclosed', I.kn, fun h2 => ⟨(I.kord h2).1, ?_⟩, ?_, ?_, S', ?_, (hput x).1, (hput x).2, hvals' le0 (hx.mono le1), step'⟩ hleft
      · rw [hset, (I.kord h2).2]
        simp; omega
      · intro i h2 h3
        rw [hset, I.below i h2 h3]; rfl
      · intro i h2 h2p
        rw [hset] at h2
        simp only [Bool.or_eq_true, decide_eq_true_eq] at h2
        rcases h2 with h2 | rfl
        · exact I.above i h2 h2p
        · exact hjk'
      · intro b p hb
        by_cases h2 : (M j).length ≤ b ∧ b < (M (j + 1)).length
        · exact .inr ⟨j, hjn, by rw [hset]; simp, h2⟩
        · rw [out' b h2] at hb
          rcases I.dom b p hb with h3 | ⟨i, h3, h4, h5⟩
          · exact .inl h3
          · exact .inr ⟨i, h3, by rw [hset, h4]; rfl, h5⟩
end Go.Proofs.YtefjnnghfloddaaGreat.Abs

/- The executor is sound: code, and calls. -/
namespace Go.Proofs.YtefjnnghfloddaaGreat.Abs
set_option linter.unusedVariables false
set_option linter.unusedSimpArgs false
variable {P : Program} {T : TT} {fr : Option Nat} {fd : Nat} {ds : List Deferred}
def codeOk (N : Nat) : Code → Bool
  | .region _ ops draw => dstOk N ops && (!draw || regOk ops)
  | .seq a b => codeOk N a && codeOk N b
  | .cond _ a b => codeOk N a && codeOk N b
  | .block _ b => codeOk N b
  | .loop b => codeOk N b
  | _ => true
def exOf : Ex → Exit
  | .normal => .normal
  | .ret => .ret
  | .exit id => .exit id
def RunSound (fr : Option Nat) (fd : Nat) (ds : List Deferred) (P : Program) (N : Nat) (c : Code) (r : Run) : Prop := ∀ e m x e' m', r e m = some (x, e', m') → ∀ ρ a w Q, ER ds ρ N e a → Sim ρ m w → Sc m → (∀ t, (e t).bel m.length) →
  (∀ ρ' a' w', ER ds ρ' N e' a' → Sim ρ' m' w' → Step ρ m w ρ' m' w' → Q (exOf x) a' w') → c.wpIn (Fr fr) fd P Q a w
def RunGood (r : Run) : Prop := ∀ e m x e' m', r e m = some (x, e', m') → Sc m → (∀ t, (e t).bel m.length) → Sc m' ∧ (∀ t, (e' t).bel m'.length) ∧ m.length ≤ m'.length
theorem runOps_good {call : CallT} (hT : TOk P T) (hG : CallGood call) {chk : Nat → Bool × List Op} {ops : Array Oper} : ∀ (is : List Nat) {e e' : Env} {m m' : Mem}, runOps T call chk ops is e m = some (e', m') → Sc m → (∀ t, (e t).bel m.length) →
    Sc m' ∧ (∀ t, (e' t).bel m'.length) ∧ m.length ≤ m'.length
  | [], e, e', m, m', h, hs, he => by
    simp only [runOps, Option.some.injEq, Prod.mk.injEq] at h
    obtain ⟨rfl, rfl⟩ := h
    exact ⟨hs, he, Nat.le_refl _⟩
  | i :: is, e, e', m, m', h, hs, he => by
    simp only [runOps] at h
    split at h
    · cases h
    rename_i o ho
    split at h
    · cases h
    rename_i v m1 hstep
    obtain ⟨g1, g2, g3⟩ := stepW_good hT hG hs he hstep
    have h2 : runOps T call chk ops is (e.upd o.dst v) m1 = some (e', m') := by
      split at h
      · split at h
        · exact (chkS_some h).1
        · cases h
      · exact (chkS_some h).1
    obtain ⟨a, b, c⟩ := runOps_good hT hG is h2 g2 (upd_bel (fun t => V.bel_mono g3 _ (he t)) g1)
    exact ⟨a, b, Nat.le_trans g3 c⟩
theorem region_sound {call : CallT} (hT : TOk P T) (hC : CallSound P call) (hG : CallGood call) (hm : P.follows .mixedOrders = true) {N id : Nat} {ops : Array Oper} {draw : Bool} (hN : dstOk N ops = true) (hreg : draw = true → regOk ops = true)
    {e e' : Env} {m m' : Mem} (h : runOps T call (chkOf draw ops) ops (List.range ops.size) e m = some (e', m')) {ρ : Rho} {a : Act} {w : World} {Q : Exit → Act → World → Prop} (hE : ER ds ρ N e a) (S : Sim ρ m w) (hs : Sc m) (he : ∀ t, (e t).bel m.length)
    (hQ : ∀ ρ' a' w', ER ds ρ' N e' a' → Sim ρ' m' w' → Step ρ m w ρ' m' w' → Q .normal a' w') : (Code.region id ops draw).wpIn (Fr fr) fd P Q a w := by
  cases draw with
  | false => exact wpIn_region (wpOps_sound hT hC hG hN _ h hE S hs he hQ)
  | true =>
    refine wpIn_region_any hm ?_
    obtain ⟨E, M, W, st⟩ := stages_of _ h
    obtain ⟨S0, st0⟩ := S.drew (w' := { w with drawn := w.drawn + 1 }) rfl rfl rfl rfl
    obtain ⟨k, c1, c2, c3, c4⟩ := exists_next (ordOk ops) _ 0 ops.size rfl (by omega)
    have hpre : M 0 <+: M k := by
      have := chain (M := M) (a := 0) k (fun i h1 h2 => st.nonord (by omega) (c4 i h1 (by omega)))
      rwa [Nat.zero_add] at this
    have hl : ∀ i, (Array.replicate ops.size false).getD i false = false := by
      intro i
      simp [Array.getD_eq_getD_getElem?, Array.getElem?_replicate]
      split <;> rfl
    have hv : ∀ n, Abs.vals ops (fun i => (Array.replicate ops.size false).getD i false) W e n = e := by
      intro n
      induction n with
      | zero => rfl
      | succ n ih => rw [Abs.vals, if_neg (by rw [hl]; simp)]; exact ih
    refine any_sound hT hC hG hN (hreg rfl) st hs he (ρ0 := ρ) (w0 := w) hQ ops.size _ ρ k a _ ?_ ?_
    · refine ⟨by simp, ?_, c2, fun h1 => ⟨c3 h1, hl _⟩, ?_, ?_, ?_, ?_, hE.size, hE.defers, ?_, ?_⟩
      · intro j o hj; simp only [hl] at hj; cases hj
      · intro i h1 h2; rw [c4 i (by omega) h1] at h2; cases h2
      · intro i h1; rw [hl] at h1; cases h1
      · exact S0.extend (by rw [← st.m0]; exact hpre)
      · intro b p hb; rw [st.m0]; exact .inl (S.dom b p hb).1
      · intro t; rw [hv]; exact hE.rel t
      · rw [st.m0]
        exact st0.extend S0 (by rw [← st.m0]; exact hpre)
    · have : ∀ n, left (Array.replicate ops.size false) n = n := by
        intro n
        induction n with
        | zero => rfl
        | succ n ih => simp only [left, hl, ih, Bool.false_eq_true, if_false]
      exact this _
theorem loopN_good {r : Run} (hr : RunGood r) : ∀ k, RunGood (loopN k r)
  | 0, e, m, x, e', m', h, _, _ => by cases h
  | k + 1, e, m, x, e', m', h, hs, he => by
    simp only [loopN] at h
    split at h
    · rename_i e1 m1 h1
      obtain ⟨a, b, c⟩ := hr _ _ _ _ _ h1 hs he
      obtain ⟨a', b', c'⟩ := loopN_good hr k _ _ _ _ _ h a b
      exact ⟨a', b', Nat.le_trans c c'⟩
    · rename_i x1 e1 m1 _ h1
      simp only [Option.some.injEq, Prod.mk.injEq] at h
      obtain ⟨rfl, rfl, rfl⟩ := h
      exact hr _ _ _ _ _ h1 hs he
    · cases h
theorem loopN_sound {N : Nat} {c : Code} {r : Run} (hr : RunSound fr fd ds P N c r) (hg : RunGood r) : ∀ k, RunSound fr fd ds P N (.loop c) (loopN k r) := by
  have key : ∀ k e m x e' m', loopN k r e m = some (x, e', m') → ∀ ρ a w Q, ER ds ρ N e a → Sim ρ m w → Sc m → (∀ t, (e t).bel m.length) →
      (∀ ρ' a' w', ER ds ρ' N e' a' → Sim ρ' m' w' → Step ρ m w ρ' m' w' → Q (exOf x) a' w') → Code.roundsIn (Fr fr) fd P c Q k a w := by
    intro k
    induction k with
    | zero => intro e m x e' m' h; cases h
    | succ k ih =>
      intro e m x e' m' h ρ a w Q hE S hs he hQ
      rw [roundsIn_succ]
      simp only [loopN] at h
      split at h
      · rename_i e1 m1 h1
        refine hr _ _ _ _ _ h1 ρ a w _ hE S hs he ?_
        intro ρ1 a1 w1 hE1 S1 st1
        obtain ⟨g1, g2, g3⟩ := hg _ _ _ _ _ h1 hs he
        exact ih _ _ _ _ _ h ρ1 a1 w1 Q hE1 S1 g1 g2 (fun ρ2 a2 w2 hE2 S2 st2 => hQ ρ2 a2 w2 hE2 S2 (st1.trans st2))
      · rename_i x1 e1 m1 hne h1
        simp only [Option.some.injEq, Prod.mk.injEq] at h
        obtain ⟨rfl, rfl, rfl⟩ := h
        refine hr _ _ _ _ _ h1 ρ a w _ hE S hs he ?_
        intro ρ1 a1 w1 hE1 S1 st1
        have := hQ ρ1 a1 w1 hE1 S1 st1
        cases x1 with
        | normal => exact (hne rfl).elim
        | ret => exact this
        | exit id => exact this
      · cases h
  intro k e m x e' m' h ρ a w Q hE S hs he hQ
  exact wpIn_loop_rounds k (key k e m x e' m' h ρ a w Q hE S hs he hQ)
theorem runC_good {call : CallT} (hT : TOk P T) (hG : CallGood call) {loop : Run → Run} (hL : ∀ r, RunGood r → RunGood (loop r)) : ∀ c, RunGood (runC T call loop c)
  | .skip, e, m, x, e', m', h, hs, he => by simp only [runC, Option.some.injEq, Prod.mk.injEq] at h; obtain ⟨rfl, rfl, rfl⟩ := h; exact ⟨hs, he, Nat.le_refl _⟩
  | .ret, e, m, x, e', m', h, hs, he => by simp only [runC, Option.some.injEq, Prod.mk.injEq] at h; obtain ⟨rfl, rfl, rfl⟩ := h; exact ⟨hs, he, Nat.le_refl _⟩
  | .exit id, e, m, x, e', m', h, hs, he => by simp only [runC, Option.some.injEq, Prod.mk.injEq] at h; obtain ⟨rfl, rfl, rfl⟩ := h; exact ⟨hs, he, Nat.le_refl _⟩
  | .region id ops draw, e, m, x, e', m', h, hs, he => by
    simp only [runC] at h
    split at h
    · rename_i e1 m1 h1
      simp only [Option.some.injEq, Prod.mk.injEq] at h
      obtain ⟨rfl, rfl, rfl⟩ := h
      exact runOps_good hT hG _ h1 hs he
    · cases h
  | .seq a b, e, m, x, e', m', h, hs, he => by
    simp only [runC] at h
    split at h
    · rename_i e1 m1 h1
      obtain ⟨g1, g2, g3⟩ := runC_good hT hG hL a _ _ _ _ _ h1 hs he
      obtain ⟨k1, k2, k3⟩ := runC_good hT hG hL b _ _ _ _ _ h g1 g2
      exact ⟨k1, k2, Nat.le_trans g3 k3⟩
    · rename_i h1
      simp only [Option.some.injEq, Prod.mk.injEq] at h
      obtain ⟨rfl, rfl, rfl⟩ := h
      exact runC_good hT hG hL a _ _ _ _ _ h1 hs he
    · cases h
  | .cond c a b, e, m, x, e', m', h, hs, he => by
    simp only [runC] at h
    split at h
    · split at h
      · exact runC_good hT hG hL a _ _ _ _ _ h hs he
      · exact runC_good hT hG hL b _ _ _ _ _ h hs he
    · cases h
  | .block id b, e, m, x, e', m', h, hs, he => by
    simp only [runC] at h
    split at h
    · rename_i h1
      have := runC_good hT hG hL b _ _ _ _ _ h1 hs he
      split at h <;> (simp only [Option.some.injEq, Prod.mk.injEq] at h; obtain ⟨rfl, rfl, rfl⟩ := h; exact this)
    · rename_i h1
      have := runC_good hT hG hL b _ _ _ _ _ h1 hs he
      simp only [Option.some.injEq, Prod.mk.injEq] at h
      obtain ⟨rfl, rfl, rfl⟩ := h
      exact this
    · cases h
  | .loop b, e, m, x, e', m', h, hs, he => by
    simp only [runC] at h
    exact hL _ (runC_good hT hG hL b) _ _ _ _ _ h hs he
  | .rangeFunc .., e, m, x, e', m', h, hs, he => by simp only [runC] at h; cases h
  | .scope .., e, m, x, e', m', h, hs, he => by simp only [runC] at h; cases h
  | .label .., e, m, x, e', m', h, hs, he => by simp only [runC] at h; cases h
  | .goto .., e, m, x, e', m', h, hs, he => by simp only [runC] at h; cases h
  | .refuse .., e, m, x, e', m', h, hs, he => by simp only [runC] at h; cases h
theorem runC_sound {call : CallT} (hT : TOk P T) (hC : CallSound P call) (hG : CallGood call) (hm : P.follows .mixedOrders = true) {N : Nat} {loop : Run → Run} (hL : ∀ c r, RunSound fr fd ds P N c r → RunGood r → RunSound fr fd ds P N (.loop c) (loop r)) (hLg : ∀ r, RunGood r → RunGood (loop r)) :
    ∀ c, codeOk N c = true → RunSound fr fd ds P N c (runC T call loop c)
  | .skip, _, e, m, x, e', m', h, ρ, a, w, Q, hE, S, hs, he, hQ => by
    simp only [runC, Option.some.injEq, Prod.mk.injEq] at h; obtain ⟨rfl, rfl, rfl⟩ := h
    exact wpIn_skip (hQ ρ a w hE S (Step.refl _ _ _))
  | .ret, _, e, m, x, e', m', h, ρ, a, w, Q, hE, S, hs, he, hQ => by
    simp only [runC, Option.some.injEq, Prod.mk.injEq] at h; obtain ⟨rfl, rfl, rfl⟩ := h
    exact wpIn_ret (hQ ρ a w hE S (Step.refl _ _ _))
  | .exit id, _, e, m, x, e', m', h, ρ, a, w, Q, hE, S, hs, he, hQ => by
    simp only [runC, Option.some.injEq, Prod.mk.injEq] at h; obtain ⟨rfl, rfl, rfl⟩ := h
    exact wpIn_exit (hQ ρ a w hE S (Step.refl _ _ _))
  | .region id ops draw, hc, e, m, x, e', m', h, ρ, a, w, Q, hE, S, hs, he, hQ => by
    simp only [codeOk, Bool.and_eq_true, Bool.or_eq_true, Bool.not_eq_true'] at hc
    simp only [runC] at h
    split at h
    · rename_i e1 m1 h1
      simp only [Option.some.injEq, Prod.mk.injEq] at h
      obtain ⟨rfl, rfl, rfl⟩ := h
      exact region_sound hT hC hG hm hc.1 (fun hd => hc.2.resolve_left (by simp [hd])) h1 hE S hs he hQ
    · cases h
  | .seq c1 c2, hc, e, m, x, e', m', h, ρ, a, w, Q, hE, S, hs, he, hQ => by
    simp only [codeOk, Bool.and_eq_true] at hc
    simp only [runC] at h
    refine wpIn_seq ?_
    split at h
    · rename_i e1 m1 h1
      obtain ⟨g1, g2, g3⟩ := runC_good hT hG hLg c1 _ _ _ _ _ h1 hs he
      refine runC_sound hT hC hG hm hL hLg c1 hc.1 _ _ _ _ _ h1 ρ a w _ hE S hs he ?_
      intro ρ1 a1 w1 hE1 S1 st1
      exact runC_sound hT hC hG hm hL hLg c2 hc.2 _ _ _ _ _ h ρ1 a1 w1 Q hE1 S1 g1 g2 (fun ρ2 a2 w2 hE2 S2 st2 => hQ ρ2 a2 w2 hE2 S2 (st1.trans st2))
    · rename_i x1 e1 m1 hne h1
      simp only [Option.some.injEq, Prod.mk.injEq] at h
      obtain ⟨rfl, rfl, rfl⟩ := h
      refine runC_sound hT hC hG hm hL hLg c1 hc.1 _ _ _ _ _ h1 ρ a w _ hE S hs he ?_
      intro ρ1 a1 w1 hE1 S1 st1
      have := hQ ρ1 a1 w1 hE1 S1 st1
      cases x1 with
      | normal => exact (hne rfl).elim
      | ret => exact this
      | exit id => exact this
    · cases h
  | .cond c c1 c2, hc, e, m, x, e', m', h, ρ, a, w, Q, hE, S, hs, he, hQ => by
    simp only [codeOk, Bool.and_eq_true] at hc
    simp only [runC] at h
    split at h
    · rename_i t ht
      have rc := evo_rel (ρ := ρ) (a := a) ht (fun t _ => hE.rel t)
      simp only [Rel] at rc
      refine wpIn_cond rc ?_
      cases t with
      | true =>
        simp only [if_true] at h ⊢
        exact runC_sound hT hC hG hm hL hLg c1 hc.1 _ _ _ _ _ h ρ a w Q hE S hs he hQ
      | false =>
        simp only [Bool.false_eq_true, if_false] at h ⊢
        exact runC_sound hT hC hG hm hL hLg c2 hc.2 _ _ _ _ _ h ρ a w Q hE S hs he hQ
    · cases h
  | .block id b, hc, e, m, x, e', m', h, ρ, a, w, Q, hE, S, hs, he, hQ => by
    simp only [codeOk] at hc
    simp only [runC] at h
    refine wpIn_block ?_
    split at h
    · rename_i j e1 m1 h1
      refine runC_sound hT hC hG hm hL hLg b hc _ _ _ _ _ h1 ρ a w _ hE S hs he ?_
      intro ρ1 a1 w1 hE1 S1 st1
      simp only [exOf, Exit.inBlock]
      split at h
      · rename_i hj
        simp only [Option.some.injEq, Prod.mk.injEq] at h
        obtain ⟨rfl, rfl, rfl⟩ := h
        rw [if_pos hj]
        exact hQ ρ1 a1 w1 hE1 S1 st1
      · rename_i hj
        simp only [Option.some.injEq, Prod.mk.injEq] at h
        obtain ⟨rfl, rfl, rfl⟩ := h
        rw [if_neg hj]
        exact hQ ρ1 a1 w1 hE1 S1 st1
    · rename_i x1 e1 m1 hne h1
      simp only [Option.some.injEq, Prod.mk.injEq] at h
      obtain ⟨rfl, rfl, rfl⟩ := h
      refine runC_sound hT hC hG hm hL hLg b hc _ _ _ _ _ h1 ρ a w _ hE S hs he ?_
      intro ρ1 a1 w1 hE1 S1 st1
      have := hQ ρ1 a1 w1 hE1 S1 st1
      cases x1 with
      | normal => exact this
      | ret => exact this
      | exit id => exact (hne _ rfl).elim
    · cases h
  | .loop b, hc, e, m, x, e', m', h, ρ, a, w, Q, hE, S, hs, he, hQ => by
    simp only [codeOk] at hc
    simp only [runC] at h
    exact hL b _ (runC_sound hT hC hG hm hL hLg b hc) (runC_good hT hG hLg b) _ _ _ _ _ h ρ a w Q hE S hs he hQ
  | .rangeFunc .., _, e, m, x, e', m', h, ρ, a, w, Q, hE, S, hs, he, hQ => by simp only [runC] at h; cases h
  | .scope .., _, e, m, x, e', m', h, ρ, a, w, Q, hE, S, hs, he, hQ => by simp only [runC] at h; cases h
  | .label .., _, e, m, x, e', m', h, ρ, a, w, Q, hE, S, hs, he, hQ => by simp only [runC] at h; cases h
  | .goto .., _, e, m, x, e', m', h, ρ, a, w, Q, hE, S, hs, he, hQ => by simp only [runC] at h; cases h
  | .refuse .., _, e, m, x, e', m', h, ρ, a, w, Q, hE, S, hs, he, hQ => by simp only [runC] at h; cases h
theorem sim_grown {ρ : Rho} {m : Mem} {W W' : World} {row : Option Nat} (S : Sim ρ m W) (hg : W.grownBy W' row) (hr : ∀ r, row = some r → ∃ o : Obj, W.heap[r]? = some o ∧ o.isCells = false) : Sim ρ m W' where
  dom b p h := ⟨(S.dom b p h).1, Nat.lt_of_lt_of_le (S.dom b p h).2 hg.size⟩
  cell b p k h1 h2 h3 i v hv := by
    obtain ⟨c, x, hx, r⟩ := S.cell b p k h1 h2 h3 i v hv
    exact ⟨c, x, cell_kept hx hg hr, r⟩
  own b p k h1 h2 h3 := by
    obtain ⟨q1, q2, arr, ty, q3, q4⟩ := S.own b p k h1 h2 h3
    exact ⟨q1, q2, arr, ty, (grownBy_keeps_cells hg hr q3 rfl).trans q3, q4⟩
  apart := S.apart
theorem step_grown {ρ ρ' : Rho} {m m' : Mem} {w W W' : World} {row : Option Nat} (st : Step ρ m w ρ' m' W) (hg : W.grownBy W' row) (hr : ∀ r, row = some r → w.heap.size ≤ r) : Step ρ m w ρ' m' W' where
  ext := st.ext
  len := st.len
  size := Nat.le_trans st.size hg.size
  keep B hB hO := by
    obtain ⟨h1, h2⟩ := st.keep B hB hO
    exact ⟨(hg.block B (Nat.lt_of_lt_of_le hB st.size) (fun e => by have := hr B e.symm; omega)).trans h1, h2⟩
  os := hg.os.trans st.os
  tape := hg.tape.trans st.tape
  output := hg.output.trans st.output
  st := st.st
  new := st.new
theorem Sim.not_own {ρ : Rho} {m : Mem} {w : World} (S : Sim ρ m w) {B : Nat} {o : Obj} (h : w.heap[B]? = some o) (hc : o.isCells = false) : ¬ Own ρ m B := by
  rintro ⟨b, p, k, h1, h2, h3, rfl⟩
  obtain ⟨_, _, arr, ty, h4, _⟩ := S.own b p k h1 h2 h3
  rw [h4] at h
  obtain rfl := Option.some.inj h
  cases hc
theorem Step.other {ρ ρ' : Rho} {m m' : Mem} {w w' : World} (S : Sim ρ m w) (st : Step ρ m w ρ' m' w') {B : Nat} {o : Obj} (h : w.heap[B]? = some o) (hc : o.isCells = false) : w'.heap[B]? = some o :=
  (st.keep B (Array.getElem?_eq_some_iff.1 h).1 (S.not_own h hc)).1.trans h
def mark (D : Nat) : Deferred := { target := .collected D, args := #[] }
def Mk (lo : Nat) (ds : List Deferred) (w : World) : Prop := ∃ Ds : List Nat, ds = Ds.map mark ∧ Ds.Nodup ∧ ∀ D ∈ Ds, lo ≤ D ∧ w.heap[D]? = some (.deferred (some []))
theorem Mk.step {lo : Nat} {ds : List Deferred} {ρ ρ' : Rho} {m m' : Mem} {w w' : World} (h : Mk lo ds w) (S : Sim ρ m w) (st : Step ρ m w ρ' m' w') : Mk lo ds w' := by
  obtain ⟨Ds, h1, h2, h3⟩ := h
  exact ⟨Ds, h1, h2, fun D hD => ⟨(h3 D hD).1, Step.other S st (h3 D hD).2 rfl⟩⟩
def IterSound (P : Program) : Prop := ∀ g caps m vs, IT g caps m = some vs → Sc m → belL m.length caps → belL m.length vs ∧
  (∀ args' w, (callFunc g args').run P w = .ok (.enter g args') w) ∧
  ∀ ρ w (lb : Array Value), RelL ρ caps lb.toList → Sim ρ m w → ∃ xs : List Value, RelL ρ vs xs ∧
    ∀ (l : Nat) (J : Nat → World → Prop) (W : World), (∀ k W1, J k W1 → ∃ ρ' m', ρ.le ρ' ∧ Sim ρ' m' W1 ∧ caps.map (boxAt m') = caps.map (boxAt m)) → AbidesFrom W.heap.size J → J 0 W →
      (∀ k x W1, J k W1 → xs[k]? = some x → YieldAt Fence.wide 1 P l #[x] W1 fun e W' => e = .returned (.bool true) ∧ J (k + 1) W') →
      CallsIn Fence.wide 2 P g (#[.func (.yield l) #[] #[]] ++ lb) W fun e W' => (∃ v, e = .returned v) ∧ J xs.length W'
theorem rngR_steps {caps : List V} {m0 : Mem} {p : Tmp} {r : Run} {e : Env} : ∀ (vs : List V) {m : Mem} {x : Ex} {e' : Env} {m' : Mem}, rngR caps m0 p r e vs m = some (x, e', m') → x = .normal ∧ e = e' ∧
    ∃ M : Nat → Mem, M 0 = m ∧ M vs.length = m' ∧ ∀ k v, vs[k]? = some v → (∃ e2, r (e.upd (some p) v) (M k) = some (.normal, e2, M (k + 1))) ∧ caps.map (boxAt (M (k + 1))) = caps.map (boxAt m0)
  | [], m, x, e', m', h => by
    simp only [rngR, Option.some.injEq, Prod.mk.injEq] at h
    obtain ⟨rfl, rfl, rfl⟩ := h
    exact ⟨rfl, rfl, fun _ => m, rfl, rfl, fun k v hv => by cases hv⟩
  | v :: vs, m, x, e', m', h => by
    simp only [rngR] at h
    split at h
    · rename_i e2 m2 h1
      split at h
      · rename_i hb
        obtain ⟨rfl, rfl, M, h2, h3, h4⟩ := rngR_steps vs h
        refine ⟨rfl, rfl, fun k => if k = 0 then m else M (k - 1), rfl, by simpa using h3, ?_⟩
        intro k u hu
        cases k with
        | zero =>
          obtain rfl : v = u := by simpa using hu
          simp only [if_true, Nat.zero_add, if_neg (Nat.one_ne_zero), Nat.sub_self, h2]
          exact ⟨⟨e2, h1⟩, hb⟩
        | succ k => simpa using h4 k u (by simpa using hu)
      · cases h
    · cases h
theorem rngR_good {caps : List V} {m0 : Mem} {p : Tmp} {r : Run} (hr : RunGood r) {e : Env} : ∀ (vs : List V) {m : Mem} {x : Ex} {e' : Env} {m' : Mem}, rngR caps m0 p r e vs m = some (x, e', m') → Sc m → (∀ t, (e t).bel m.length) → belL m.length vs →
    Sc m' ∧ (∀ t, (e' t).bel m'.length) ∧ m.length ≤ m'.length
  | [], m, x, e', m', h, hs, he, hv => by
    simp only [rngR, Option.some.injEq, Prod.mk.injEq] at h
    obtain ⟨rfl, rfl, rfl⟩ := h
    exact ⟨hs, he, Nat.le_refl _⟩
  | v :: vs, m, x, e', m', h, hs, he, hv => by
    simp only [belL] at hv
    simp only [rngR] at h
    split at h
    · rename_i e2 m2 h1
      split at h
      · obtain ⟨g1, g2, g3⟩ := hr _ _ _ _ _ h1 hs (upd_bel he hv.1)
        obtain ⟨k1, k2, k3⟩ := rngR_good hr vs h g1 (fun t => V.bel_mono g3 _ (he t)) (belL_mono g3 _ hv.2)
        exact ⟨k1, k2, Nat.le_trans g3 k3⟩
      · cases h
    · cases h
def codeOk2 (N : Nat) : Code → Bool
  | .seq a b => codeOk2 N a && codeOk2 N b
  | .cond _ a b => codeOk2 N a && codeOk2 N b
  | .block _ b => codeOk2 N b
  | .rangeFunc _ ps a b => codeOk N a && codeOk N b && ps.all (fun p => decide (p < N))
  | c => codeOk N c
def RunSound2 (P : Program) (N lo : Nat) (c : Code) (r : Run) : Prop := ∀ e m x e' m', r e m = some (x, e', m') → ∀ ds ρ a w Q, ER ds ρ N e a → Mk lo ds w → lo ≤ w.heap.size → Sim ρ m w → Sc m → (∀ t, (e t).bel m.length) →
  (∀ ds' ρ' a' w', ER ds' ρ' N e' a' → Mk lo ds' w' → Sim ρ' m' w' → Step ρ m w ρ' m' w' → Q (exOf x) a' w') → c.wpIn (Fr none) 3 P Q a w
theorem RunSound2.of {N lo : Nat} {c : Code} {r : Run} (h : ∀ ds, RunSound none 3 ds P N c r) : RunSound2 P N lo c r := by
  intro e m x e' m' hr ds ρ a w Q hE hM hlo S hs he hQ
  exact h ds e m x e' m' hr ρ a w Q hE S hs he (fun ρ' a' w' hE' S' st => hQ ds ρ' a' w' hE' (hM.step S st) S' st)
theorem rngC_sound {N lo : Nat} {f : Operand} {p : Tmp} {ca cb : Code} {ra rb r : Run} (hI : IterSound P) (hp : p < N) (ha : ∀ fr, RunSound fr 1 [] P N ca ra) (hb : ∀ fr, RunSound fr 1 [] P N cb rb) (hga : RunGood ra) (hgb : RunGood rb)
    (hr : ∀ e m e' m', r e m = some (.normal, e', m') → ∃ e1 m1, ra e m = some (.normal, e1, m1) ∧ rb e1 m1 = some (.normal, e', m')) : RunSound2 P N lo (.rangeFunc f #[p] ca cb) (fun e m => rngC r (evo e f) p e m) := by
  intro e m x e' m' h ds ρ a w Q hE hM hlo S hs he hQ
  simp only [rngC] at h
  split at h
  case h_2 => cases h
  rename_i g caps hf
  split at h
  case h_2 => cases h
  rename_i vs hvs
  have hfr := evo_rel (ρ := ρ) (a := a) hf (fun t _ => hE.rel t)
  have hfb := evo_bel he hf
  simp only [Rel] at hfr
  simp only [V.bel] at hfb
  obtain ⟨fs, lb, ef, hfs, hlb⟩ := hfr
  have hfs : fs = #[] := by
    have := hfs.length
    simp at this
    exact this
  subst hfs
  obtain ⟨hbv, hcf, hit⟩ := hI g caps m vs hvs hs hfb.2
  obtain ⟨xs, hxs, hcall⟩ := hit ρ w lb hlb S
  obtain ⟨rfl, rfl, M, hM0, hMn, hst⟩ := rngR_steps vs h
  have hgr : RunGood (fun e m => match r e m with
      | some (.normal, e', m') => some (.normal, e', m')
      | _ => none) := by
    intro e m x e' m' h hs he
    simp only at h
    split at h
    · rename_i e1 m1 h1
      obtain ⟨rfl, rfl, rfl⟩ : _ ∧ _ ∧ _ := by simpa using h
      obtain ⟨e2, m2, h2, h3⟩ := hr _ _ _ _ h1
      obtain ⟨g1, g2, g3⟩ := hga _ _ _ _ _ h2 hs he
      obtain ⟨k1, k2, k3⟩ := hgb _ _ _ _ _ h3 g1 g2
      exact ⟨k1, k2, Nat.le_trans g3 k3⟩
    · cases h
  -- the memories stay good
  have hgood : ∀ k, k ≤ vs.length → Sc (M k) ∧ m.length ≤ (M k).length := by
    intro k
    induction k with
    | zero => intro _; rw [hM0]; exact ⟨hs, Nat.le_refl _⟩
    | succ k ih =>
      intro hk
      obtain ⟨g1, g2⟩ := ih (by omega)
      obtain ⟨v, hv⟩ : ∃ v, vs[k]? = some v := ⟨vs[k], by simp [show k < vs.length from by omega]⟩
      obtain ⟨⟨e2, h1⟩, _⟩ := hst k v hv
      obtain ⟨k1, k2, k3⟩ := hgr (e.upd (some p) v) (M k) .normal e2 (M (k + 1)) (by simp only; rw [h1]) g1 (upd_bel (fun t => V.bel_mono g2 _ (he t)) (V.bel_mono g2 _ (belL_iff.1 hbv v (List.mem_of_getElem? hv))))
      exact ⟨k1, Nat.le_trans g2 k3⟩
  have hbox : ∀ k, k ≤ vs.length → caps.map (boxAt (M k)) = caps.map (boxAt m) := by
    intro k hk
    cases k with
    | zero => rw [hM0]
    | succ k =>
      obtain ⟨v, hv⟩ : ∃ v, vs[k]? = some v := ⟨vs[k], by simp [show k < vs.length from by omega]⟩
      exact (hst k v hv).2
  have hlen : vs.length = xs.length := hxs.length.symm
  refine wpIn_rangeFunc ?_
  intro fn hfn
  obtain ⟨rec, hrec⟩ : ∃ rec : LoopState → Option Code → Loop, rec = fun st pe => { state := st, pending := pe, fn, tmps := a.tmps, params := #[p], assign := ca, body := cb, defers := w.heap.size } := ⟨_, rfl⟩
  obtain ⟨W1, hW1⟩ : ∃ W1, (w.alloc (.deferred (some []))).alloc (.loop (rec .ready none)) = W1 := ⟨_, rfl⟩
  have hL1 : W1.heap[w.heap.size + 1]? = some (.loop (rec .ready none)) := by
    rw [← hW1]; have := World.alloc_heap_new (w.alloc (.deferred (some []))) (.loop (rec .ready none)); rwa [World.size_alloc] at this
  have hK1 : W1.heap[w.heap.size]? = some (.deferred (some [])) := by
    rw [← hW1]; exact (Go.RowKit.Below.heap_alloc _ _ _ (by simp)).trans (World.alloc_heap_new w _)
  have hg0 : w.grownBy (w.alloc (.deferred (some []))) none := World.grownBy_alloc w _ none
  have hg1 : (w.alloc (.deferred (some []))).grownBy W1 none := by rw [← hW1]; exact World.grownBy_alloc _ _ none
  have hS1 : Sim ρ m W1 := sim_grown (sim_grown S hg0 (fun r e => by cases e)) hg1 (fun r e => by cases e)
  have hT1 : Step ρ m w ρ m W1 := step_grown (step_grown (Step.refl ρ m w) hg0 (fun r e => by cases e)) hg1 (fun r e => by cases e)
  obtain ⟨J, hJ⟩ : ∃ J : Nat → World → Prop, J = fun k W => k ≤ vs.length ∧ ∃ ρ', Sim ρ' (M k) W ∧ Step ρ m w ρ' (M k) W ∧ W.heap[w.heap.size + 1]? = some (.loop (rec .ready none)) ∧ W.heap[w.heap.size]? = some (.deferred (some [])) := ⟨_, rfl⟩
  refine ⟨w.heap.size + 1, [{ target := .collected w.heap.size, args := #[] }], W1, { target := .fn (.func g) lb, args := #[.func (.yield (w.heap.size + 1)) #[] #[]] }, W1, g,
    #[.func (.yield (w.heap.size + 1)) #[] #[]] ++ lb, W1, ?_, ?_, fun _ _ => trivial, ?_, by simp [Fence.wide], ?_⟩
  · rw [← hW1, hrec]; exact run_enterLoop_outer _ _ _ _ _
  · simp only [resolve, ef]
    simp [go_sem]
  · simp only [invoke, go_sem]
    simpa using hcf _ _
  · refine (hcall (w.heap.size + 1) J W1 ?_ ?_ ?_ ?_).mono ?_
    · intro k W hk
      rw [hJ] at hk
      obtain ⟨hk, ρ', h1, h2, _⟩ := hk
      exact ⟨ρ', M k, h2.le S.dom, h1, hbox k hk⟩
    · intro k A B row hk hg hrow
      rw [hJ] at hk ⊢
      obtain ⟨hk, ρ', h1, h2, h3, h4⟩ := hk
      have hsz : W1.heap.size = w.heap.size + 2 := by rw [← hW1]; simp
      refine ⟨hk, ρ', sim_grown h1 hg (fun r e => ?_), step_grown h2 hg (fun r e => ?_), (grownBy_keeps hg (fun r e => (hrow r e).2) h3 rfl).trans h3, (grownBy_keeps hg (fun r e => (hrow r e).2) h4 rfl).trans h4⟩
      · obtain ⟨_, o, ho, hw⟩ := hrow r e
        exact ⟨o, ho, Obj.not_cells_of_walk hw⟩
      · have := (hrow r e).1; omega
    · rw [hJ]; exact ⟨Nat.zero_le _, ρ, by rw [hM0]; exact hS1, by rw [hM0]; exact hT1, hL1, hK1⟩
    · -- one round
      intro k y W hk hy
      rw [hJ] at hk
      obtain ⟨hk, ρ', hS, hT, hl, hd⟩ := hk
      have hklt : k < vs.length := by rw [hlen]; exact (List.getElem?_eq_some_iff.1 hy).1
      obtain ⟨v, hv⟩ : ∃ v, vs[k]? = some v := ⟨vs[k], by simp [hklt]⟩
      have hvy : Rel ρ v y := by
        obtain ⟨y', h1, h2⟩ := hxs.get k v hv
        rw [hy] at h1; obtain rfl := Option.some.inj h1; exact h2
      have hle := hT.le S.dom
      obtain ⟨⟨e2, h1⟩, _⟩ := hst k v hv
      obtain ⟨e1, m1, h2, h3⟩ := hr _ _ _ _ h1
      obtain ⟨sc, bl⟩ := hgood k hk
      have hbe : ∀ t, ((e.upd (some p) v) t).bel (M k).length := upd_bel (fun t => V.bel_mono bl _ (he t)) (V.bel_mono bl _ (belL_iff.1 hbv v (List.mem_of_getElem? hv)))
      have hyd := run_yield (P := P) (args := #[y]) hl (by rw [hrec]; rfl)
      rw [hrec] at hyd
      refine ⟨fn, _, ca, cb, hyd, roundIn_of_wpIn hfn ?_⟩
      have hE1 : ER [] ρ' N (e.upd (some p) v) { tmps := (((#[p] : Array Tmp).zip #[y]).foldl (fun tmps (t, a) => tmps.setIfInBounds t a) a.tmps), defers := [] } := by
        have := ((⟨hE.size, hE.rel, rfl⟩ : ER [] ρ N e { a with defers := [] }).mono hle).put (d := some p) (by rintro t ⟨⟩; exact hp) (hvy.mono hle)
        simpa [Act.put] using this
      refine ha (some (w.heap.size + 1)) _ _ _ _ _ h2 ρ' _ W _ hE1 hS sc hbe ?_
      intro ρ1 a1 w1 hE2 hS2 hT2
      have hl1 := Step.other hS hT2 hl rfl
      have hd1 := Step.other hS hT2 hd rfl
      refine ⟨_, run_beginRound hl1 (by rw [hrec]), ?_⟩
      have hgb1 := grownBy_putObj' w1 (w.heap.size + 1) (.loop { rec .ready none with state := .busy })
      have hS3 : Sim ρ1 m1 _ := sim_grown hS2 hgb1 (fun r e => by cases e; exact ⟨_, hl1, rfl⟩)
      have hT3 := step_grown (hT.trans hT2) hgb1 (fun r e => by cases e; omega)
      have hlt : w.heap.size + 1 < w1.heap.size := (Array.getElem?_eq_some_iff.1 hl1).1
      have hl2 : (w1.putObj (w.heap.size + 1) (.loop { rec .ready none with state := .busy })).heap[w.heap.size + 1]? = some (.loop { rec .ready none with state := .busy }) := World.putObj_heap_same hlt
      have hd2 : (w1.putObj (w.heap.size + 1) (.loop { rec .ready none with state := .busy })).heap[w.heap.size]? = some (.deferred (some [])) := (World.putObj_heap_other (by omega)).trans hd1
      obtain ⟨g1, g2, g3⟩ := hga _ _ _ _ _ h2 sc hbe
      refine hb (some (w.heap.size + 1)) _ _ _ _ _ h3 ρ1 a1 _ _ hE2 hS3 g1 g2 ?_
      intro ρ2 a2 w2 hE4 hS4 hT4
      have hl4 := Step.other hS3 hT4 hl2 rfl
      have hd4 := Step.other hS3 hT4 hd2 rfl
      have hend := run_endRound (P := P) none hl4
      refine ⟨_, _, hend, rfl, ?_⟩
      rw [hJ]
      have hgb2 := grownBy_putObj' w2 (w.heap.size + 1) (.loop { { rec .ready none with state := .busy } with state := if (none : Option Code).isNone then .ready else .done, pending := none })
      refine ⟨by omega, ρ2, sim_grown hS4 hgb2 (fun r e => by cases e; exact ⟨_, hl4, rfl⟩), step_grown (hT3.trans hT4) hgb2 (fun r e => by cases e; omega), ?_, (World.putObj_heap_other (by omega)).trans hd4⟩
      rw [World.putObj_heap_same (Array.getElem?_eq_some_iff.1 hl4).1, hrec]
      rfl
    · -- behind the iterator
      rintro e1 W ⟨⟨v, rfl⟩, hk⟩
      rw [hJ] at hk
      obtain ⟨hk, ρ', hS, hT, hl, hd⟩ := hk
      rw [← hlen, hMn] at hS hT
      have hend := run_endLoop (P := P) hl (by rw [hrec]; simp)
      rw [hrec] at hend
      refine ⟨none, _, hend, ?_⟩
      have hgb := grownBy_putObj' W (w.heap.size + 1) (.loop { rec .ready none with state := .exhausted })
      rw [hrec] at hgb
      have hS5 := sim_grown hS hgb (fun r e => by cases e; exact ⟨_, hl, by rw [hrec]; rfl⟩)
      have hT5 := step_grown hT hgb (fun r e => by cases e; omega)
      refine hQ (mark w.heap.size :: ds) ρ' _ _ ⟨hE.size, fun t => (hE.rel t).mono (hT.le S.dom), by simp [mark, hE.defers]⟩ ?_ hS5 hT5
      obtain ⟨Ds, q1, q2, q3⟩ := hM
      refine ⟨w.heap.size :: Ds, by simp [q1], ?_, ?_⟩
      · refine List.nodup_cons.2 ⟨fun hin => ?_, q2⟩
        have := (Array.getElem?_eq_some_iff.1 (q3 _ hin).2).1
        omega
      · intro D hD
        rcases List.mem_cons.1 hD with rfl | hD
        · exact ⟨hlo, (World.putObj_heap_other (by omega)).trans hd⟩
        · exact ⟨(q3 D hD).1, Step.other S hT5 (q3 D hD).2 rfl⟩
theorem rngC_good {f : Option V} {p : Tmp} {r : Run} (hI : IterSound P) (hr : RunGood r) {e : Env} {m : Mem} {x : Ex} {e' : Env} {m' : Mem} (h : rngC r f p e m = some (x, e', m')) (hf : ∀ v, f = some v → v.bel m.length) (hs : Sc m) (he : ∀ t, (e t).bel m.length) :
    Sc m' ∧ (∀ t, (e' t).bel m'.length) ∧ m.length ≤ m'.length := by
  simp only [rngC] at h
  split at h
  case h_2 => cases h
  rename_i g caps
  split at h
  case h_2 => cases h
  rename_i vs hvs
  have hfb := hf _ rfl
  simp only [V.bel] at hfb
  exact rngR_good hr vs h hs he (hI g caps m vs hvs hs hfb.2).1
theorem runC2_good {call : CallT} (hI : IterSound P) (hT : TOk P T) (hG : CallGood call) {loop : Run → Run} (hL : ∀ r, RunGood r → RunGood (loop r)) : ∀ c, RunGood (runC2 T call loop c)
  | .seq a b, e, m, x, e', m', h, hs, he => by
    simp only [runC2] at h
    split at h
    · rename_i e1 m1 h1
      obtain ⟨g1, g2, g3⟩ := runC2_good hI hT hG hL a _ _ _ _ _ h1 hs he
      obtain ⟨k1, k2, k3⟩ := runC2_good hI hT hG hL b _ _ _ _ _ h g1 g2
      exact ⟨k1, k2, Nat.le_trans g3 k3⟩
    · rename_i h1
      simp only [Option.some.injEq, Prod.mk.injEq] at h
      obtain ⟨rfl, rfl, rfl⟩ := h
      exact runC2_good hI hT hG hL a _ _ _ _ _ h1 hs he
    · cases h
  | .cond c a b, e, m, x, e', m', h, hs, he => by
    simp only [runC2] at h
    split at h
    · split at h
      · exact runC2_good hI hT hG hL a _ _ _ _ _ h hs he
      · exact runC2_good hI hT hG hL b _ _ _ _ _ h hs he
    · cases h
  | .block id b, e, m, x, e', m', h, hs, he => by
    simp only [runC2] at h
    split at h
    · rename_i h1
      have := runC2_good hI hT hG hL b _ _ _ _ _ h1 hs he
      split at h <;> (simp only [Option.some.injEq, Prod.mk.injEq] at h; obtain ⟨rfl, rfl, rfl⟩ := h; exact this)
    · rename_i h1
      have := runC2_good hI hT hG hL b _ _ _ _ _ h1 hs he
      simp only [Option.some.injEq, Prod.mk.injEq] at h
      obtain ⟨rfl, rfl, rfl⟩ := h
      exact this
    · cases h
  | .rangeFunc f ps a b, e, m, x, e', m', h, hs, he => by
    simp only [runC2] at h
    split at h
    · exact rngC_good hI (runC_good hT hG hL (.seq a b)) h (fun v hv => evo_bel he hv) hs he
    · cases h
  | .skip, e, m, x, e', m', h, hs, he => runC_good hT hG hL (.skip) _ _ _ _ _ h hs he
  | .ret, e, m, x, e', m', h, hs, he => runC_good hT hG hL (.ret) _ _ _ _ _ h hs he
  | .exit id, e, m, x, e', m', h, hs, he => runC_good hT hG hL (.exit id) _ _ _ _ _ h hs he
  | .region id ops draw, e, m, x, e', m', h, hs, he => runC_good hT hG hL (.region id ops draw) _ _ _ _ _ h hs he
  | .loop b, e, m, x, e', m', h, hs, he => runC_good hT hG hL (.loop b) _ _ _ _ _ h hs he
  | .scope .., e, m, x, e', m', h, hs, he => runC_good hT hG hL (_) _ _ _ _ _ h hs he
  | .label .., e, m, x, e', m', h, hs, he => runC_good hT hG hL (_) _ _ _ _ _ h hs he
  | .goto .., e, m, x, e', m', h, hs, he => runC_good hT hG hL (_) _ _ _ _ _ h hs he
  | .refuse .., e, m, x, e', m', h, hs, he => runC_good hT hG hL (_) _ _ _ _ _ h hs he
theorem runC2_sound {call : CallT} (hI : IterSound P) (hT : TOk P T) (hC : CallSound P call) (hG : CallGood call) (hm : P.follows .mixedOrders = true) {N lo : Nat} {loop : Run → Run} (hL : ∀ fr fd ds N c r, RunSound fr fd ds P N c r → RunGood r → RunSound fr fd ds P N (.loop c) (loop r)) (hLg : ∀ r, RunGood r → RunGood (loop r)) :
    ∀ c, codeOk2 N c = true → RunSound2 P N lo c (runC2 T call loop c)
  | .seq c1 c2, hc, e, m, x, e', m', h, ds, ρ, a, w, Q, hE, hM, hlo, S, hs, he, hQ => by
    simp only [codeOk2, Bool.and_eq_true] at hc
    simp only [runC2] at h
    refine wpIn_seq ?_
    split at h
    · rename_i e1 m1 h1
      obtain ⟨g1, g2, g3⟩ := runC2_good hI hT hG hLg c1 _ _ _ _ _ h1 hs he
      refine runC2_sound hI hT hC hG hm hL hLg c1 hc.1 _ _ _ _ _ h1 ds ρ a w _ hE hM hlo S hs he ?_
      intro ds1 ρ1 a1 w1 hE1 hM1 S1 st1
      exact runC2_sound hI hT hC hG hm hL hLg c2 hc.2 _ _ _ _ _ h ds1 ρ1 a1 w1 Q hE1 hM1 (Nat.le_trans hlo st1.size) S1 g1 g2 (fun ds2 ρ2 a2 w2 hE2 hM2 S2 st2 => hQ ds2 ρ2 a2 w2 hE2 hM2 S2 (st1.trans st2))
    · rename_i x1 e1 m1 hne h1
      simp only [Option.some.injEq, Prod.mk.injEq] at h
      obtain ⟨rfl, rfl, rfl⟩ := h
      refine runC2_sound hI hT hC hG hm hL hLg c1 hc.1 _ _ _ _ _ h1 ds ρ a w _ hE hM hlo S hs he ?_
      intro ds1 ρ1 a1 w1 hE1 hM1 S1 st1
      have := hQ ds1 ρ1 a1 w1 hE1 hM1 S1 st1
      cases x1 with
      | normal => exact (hne rfl).elim
      | ret => exact this
      | exit id => exact this
    · cases h
  | .cond c c1 c2, hc, e, m, x, e', m', h, ds, ρ, a, w, Q, hE, hM, hlo, S, hs, he, hQ => by
    simp only [codeOk2, Bool.and_eq_true] at hc
    simp only [runC2] at h
    split at h
    · rename_i t ht
      have rc := evo_rel (ρ := ρ) (a := a) ht (fun t _ => hE.rel t)
      simp only [Rel] at rc
      refine wpIn_cond rc ?_
      cases t with
      | true =>
        simp only [if_true] at h ⊢
        exact runC2_sound hI hT hC hG hm hL hLg c1 hc.1 _ _ _ _ _ h ds ρ a w Q hE hM hlo S hs he hQ
      | false =>
        simp only [Bool.false_eq_true, if_false] at h ⊢
        exact runC2_sound hI hT hC hG hm hL hLg c2 hc.2 _ _ _ _ _ h ds ρ a w Q hE hM hlo S hs he hQ
    · cases h
  | .block id b, hc, e, m, x, e', m', h, ds, ρ, a, w, Q, hE, hM, hlo, S, hs, he, hQ => by
    simp only [codeOk2] at hc
    simp only [runC2] at h
    refine wpIn_block ?_
    split at h
    · rename_i j e1 m1 h1
      refine runC2_sound hI hT hC hG hm hL hLg b hc _ _ _ _ _ h1 ds ρ a w _ hE hM hlo S hs he ?_
      intro ds1 ρ1 a1 w1 hE1 hM1 S1 st1
      simp only [exOf, Exit.inBlock]
      split at h
      · rename_i hj
        simp only [Option.some.injEq, Prod.mk.injEq] at h
        obtain ⟨rfl, rfl, rfl⟩ := h
        rw [if_pos hj]
        exact hQ ds1 ρ1 a1 w1 hE1 hM1 S1 st1
      · rename_i hj
        simp only [Option.some.injEq, Prod.mk.injEq] at h
        obtain ⟨rfl, rfl, rfl⟩ := h
        rw [if_neg hj]
        exact hQ ds1 ρ1 a1 w1 hE1 hM1 S1 st1
    · rename_i x1 e1 m1 hne h1
      simp only [Option.some.injEq, Prod.mk.injEq] at h
      obtain ⟨rfl, rfl, rfl⟩ := h
      refine runC2_sound hI hT hC hG hm hL hLg b hc _ _ _ _ _ h1 ds ρ a w _ hE hM hlo S hs he ?_
      intro ds1 ρ1 a1 w1 hE1 hM1 S1 st1
      have := hQ ds1 ρ1 a1 w1 hE1 hM1 S1 st1
      cases x1 with
      | normal => exact this
      | ret => exact this
      | exit id => exact (hne _ rfl).elim
    · cases h
  | .rangeFunc f ps ca cb, hc, e, m, x, e', m', h, ds, ρ, a, w, Q, hE, hM, hlo, S, hs, he, hQ => by
    simp only [codeOk2, Bool.and_eq_true] at hc
    simp only [runC2] at h
    split at h
    · rename_i p hp
      obtain rfl : ps = #[p] := by rw [← Array.toList_inj]; exact hp
      have hpN : p < N := by simpa using hc.2
      refine rngC_sound hI hpN (fun fr => runC_sound hT hC hG hm (hL fr 1 [] N) hLg ca hc.1.1) (fun fr => runC_sound hT hC hG hm (hL fr 1 [] N) hLg cb hc.1.2) (runC_good hT hG hLg ca) (runC_good hT hG hLg cb) ?_ _ _ _ _ _ h ds ρ a w Q hE hM hlo S hs he hQ
      intro e m e' m' h
      simp only [runC] at h
      split at h
      · rename_i e1 m1 h1; exact ⟨e1, m1, h1, h⟩
      · rename_i hne h1
        simp only [Option.some.injEq, Prod.mk.injEq] at h
        obtain ⟨rfl, rfl, rfl⟩ := h
        exact (hne rfl).elim
      · cases h
    · cases h
  | .skip, hc, e, m, x, e', m', h, ds, ρ, a, w, Q, hE, hM, hlo, S, hs, he, hQ => RunSound2.of (fun ds => runC_sound hT hC hG hm (hL none 3 ds N) hLg (.skip) hc) e m x e' m' h ds ρ a w Q hE hM hlo S hs he hQ
  | .ret, hc, e, m, x, e', m', h, ds, ρ, a, w, Q, hE, hM, hlo, S, hs, he, hQ => RunSound2.of (fun ds => runC_sound hT hC hG hm (hL none 3 ds N) hLg (.ret) hc) e m x e' m' h ds ρ a w Q hE hM hlo S hs he hQ
  | .exit id, hc, e, m, x, e', m', h, ds, ρ, a, w, Q, hE, hM, hlo, S, hs, he, hQ => RunSound2.of (fun ds => runC_sound hT hC hG hm (hL none 3 ds N) hLg (.exit id) hc) e m x e' m' h ds ρ a w Q hE hM hlo S hs he hQ
  | .region id ops draw, hc, e, m, x, e', m', h, ds, ρ, a, w, Q, hE, hM, hlo, S, hs, he, hQ => RunSound2.of (fun ds => runC_sound hT hC hG hm (hL none 3 ds N) hLg (.region id ops draw) hc) e m x e' m' h ds ρ a w Q hE hM hlo S hs he hQ
  | .loop b, hc, e, m, x, e', m', h, ds, ρ, a, w, Q, hE, hM, hlo, S, hs, he, hQ => RunSound2.of (fun ds => runC_sound hT hC hG hm (hL none 3 ds N) hLg (.loop b) hc) e m x e' m' h ds ρ a w Q hE hM hlo S hs he hQ
  | .scope .., hc, e, m, x, e', m', h, ds, ρ, a, w, Q, hE, hM, hlo, S, hs, he, hQ => RunSound2.of (fun ds => runC_sound hT hC hG hm (hL none 3 ds N) hLg _ hc) e m x e' m' h ds ρ a w Q hE hM hlo S hs he hQ
  | .label .., hc, e, m, x, e', m', h, ds, ρ, a, w, Q, hE, hM, hlo, S, hs, he, hQ => RunSound2.of (fun ds => runC_sound hT hC hG hm (hL none 3 ds N) hLg _ hc) e m x e' m' h ds ρ a w Q hE hM hlo S hs he hQ
  | .goto .., hc, e, m, x, e', m', h, ds, ρ, a, w, Q, hE, hM, hlo, S, hs, he, hQ => RunSound2.of (fun ds => runC_sound hT hC hG hm (hL none 3 ds N) hLg _ hc) e m x e' m' h ds ρ a w Q hE hM hlo S hs he hQ
  | .refuse .., hc, e, m, x, e', m', h, ds, ρ, a, w, Q, hE, hM, hlo, S, hs, he, hQ => RunSound2.of (fun ds => runC_sound hT hC hG hm (hL none 3 ds N) hLg _ hc) e m x e' m' h ds ρ a w Q hE hM hlo S hs he hQ
theorem resVs_ok (hT : TOk P T) {ρ : Rho} {m : Mem} {w : World} (S : Sim ρ m w) {N : Nat} {e : Env} {a : Act} (hE : ER ds ρ N e a) : ∀ {rs : List ResultVar} {l : List V}, resVs T e m rs = some l →
    ∃ xs, (rs.mapM fun (r : ResultVar) => (match r with | .tmp t => pure (a.tmps.getD t undef) | .cell b t => do loadVar t (← asAddr (a.tmps.getD b undef)) : Sem Value)).run P w = .ok xs w ∧ RelL ρ l xs
  | [], l, h => by simp only [resVs, Option.some.injEq] at h; subst h; exact ⟨[], rfl, by simp [RelL]⟩
  | r :: rs, l, h => by
    simp only [resVs] at h
    split at h
    · rename_i v l' hv hl
      obtain rfl := Option.some.inj h
      obtain ⟨xs, h1, h2⟩ := resVs_ok hT S hE hl
      have one : ∃ x, (match r with | .tmp t => pure (a.tmps.getD t undef) | .cell b t => do loadVar t (← asAddr (a.tmps.getD b undef)) : Sem Value).run P w = .ok x w ∧ Rel ρ v x := by
        cases r with
        | tmp t => simp only [resV, Option.some.injEq] at hv; subst hv; exact ⟨_, rfl, hE.rel t⟩
        | cell b t =>
          simp only [resV] at hv
          have hr := hE.rel b
          obtain ⟨y, h3, h4⟩ := load_ok hT S hr hv
          refine ⟨y, ?_, h4⟩
          unfold opLoad at hv
          split at hv
          case h_2 => cases hv
          rename_i b' o' i hb hi
          rw [hb] at hr
          simp only [Rel] at hr
          obtain ⟨p, hp, ex⟩ := hr
          dsimp only
          rw [ex] at h3 ⊢
          simp only [Instr.loadAt, Instr.sureAddr, Sem.run_bind, Sem.run_pure, Result.andThen_ok, asAddr] at h3 ⊢
          exact h3
      obtain ⟨x, h5, h6⟩ := one
      refine ⟨x :: xs, ?_, by simp only [RelL]; exact ⟨x, xs, rfl, h6, h2⟩⟩
      rw [List.mapM_cons]
      simp only [Sem.run_bind, h5, h1, Result.andThen_ok, Sem.run_pure]
    · cases h
theorem packV_rel {ρ : Rho} {l : List V} {xs : List Value} (h : RelL ρ l xs) : Rel ρ (packV l) (if h : xs.toArray.size = 1 then xs.toArray[0] else .tuple xs.toArray) := by
  match l, xs, h with
  | [], xs, h => simp only [RelL] at h; subst h; simp [packV, Rel, RelL]
  | [v], xs, h =>
    simp only [RelL] at h
    obtain ⟨y, ys, rfl, h1, rfl⟩ := h
    simpa [packV] using h1
  | v :: v2 :: l, xs, h =>
    have hl := h.length
    have h0 := h
    simp only [RelL] at h
    obtain ⟨y, ys, rfl, h1, y2, ys2, rfl, h2, h3⟩ := h
    simp only [packV]
    rw [dif_neg (by simp)]
    simp only [Rel]
    exact ⟨_, rfl, by simpa using h0⟩
structure FOk (P : Program) (F : FT) : Prop where
  fn : ∀ f fn, F f = some fn → P.funcs[f]? = some fn ∧ (fn.name == "runtime.NumGoroutine") = false ∧ ∀ c, fn.body = some c → codeOk2 fn.ntmps c = true
  mixed : P.follows .mixedOrders = true
  iter : IterSound P
theorem env0_bel {L : Nat} {args : List V} (h : belL L args) : ∀ t, (env0 args t).bel L := by
  intro t
  unfold env0
  rw [List.getD_eq_getElem?_getD]
  cases hh : args[t]? with
  | none => simp [V.bel, belL]
  | some v => exact belL_iff.1 h v (List.mem_of_getElem? hh)
theorem resVs_bel {L : Nat} {e : Env} {m : Mem} (hs : Sc m) (he : ∀ t, (e t).bel m.length) : ∀ {rs : List ResultVar} {l : List V}, resVs T e m rs = some l → belL m.length l
  | [], l, h => by simp only [resVs, Option.some.injEq] at h; subst h; simp [belL]
  | r :: rs, l, h => by
    simp only [resVs] at h
    split at h
    · rename_i v l' hv hl
      obtain rfl := Option.some.inj h
      simp only [belL]
      refine ⟨?_, resVs_bel (L := L) hs he hl⟩
      cases r with
      | tmp t => simp only [resV, Option.some.injEq] at hv; subst hv; exact he t
      | cell b t => exact load_good hs hv
    · cases h
theorem packV_bel {L : Nat} {l : List V} (h : belL L l) : (packV l).bel L := by
  match l, h with
  | [], h => simp [packV, V.bel, belL]
  | [v], h => simp only [belL] at h; exact h.1
  | v :: v2 :: l, h => simpa only [packV, V.bel] using h
theorem runBody_good {call : CallT} (hI : IterSound P) (hT : TOk P T) (hG : CallGood call) {loop : Run → Run} (hL : ∀ r, RunGood r → RunGood (loop r)) {fn : Func} {args : List V} {m m' : Mem} {v : V} (h : runBody T call loop fn args m = some (v, m')) (hs : Sc m) (ha : belL m.length args) : Good m v m' := by
  unfold runBody at h
  split at h
  · cases h
  rename_i c hc
  split at h
  case isFalse => cases h
  split at h
  · cases h
  · rename_i x e' m1 hne h1
    split at h
    · rename_i l hl
      obtain ⟨rfl, rfl⟩ := Prod.mk.inj (Option.some.inj h)
      obtain ⟨a, b, d⟩ := runC2_good hI hT hG hL c _ _ _ _ _ h1 hs (env0_bel ha)
      exact ⟨packV_bel (resVs_bel (L := 0) a b hl), a, d⟩
    · cases h
  · cases h
theorem runBody_sound {call : CallT} (hT : TOk P T) (hC : CallSound P call) (hG : CallGood call) {F : FT} (hF : FOk P F) {loop : Run → Run} (hL : ∀ fr fd ds N c r, RunSound fr fd ds P N c r → RunGood r → RunSound fr fd ds P N (.loop c) (loop r)) (hLg : ∀ r, RunGood r → RunGood (loop r))
    {f : FuncId} {fn : Func} (hf : F f = some fn) {args : List V} {m m' : Mem} {v : V} (h : runBody T call loop fn args m = some (v, m')) (hs : Sc m) (ha : belL m.length args) {ρ : Rho} {w : World} {xs : Array Value} (hx : RelL ρ args xs.toList) (S : Sim ρ m w) :
    Calls P f xs w fun e w' => ∃ ρ' x, e = .returned x ∧ Rel ρ' v x ∧ Sim ρ' m' w' ∧ Step ρ m w ρ' m' w' := by
  obtain ⟨hfn, hname, hcode⟩ := hF.fn f fn hf
  unfold runBody at h
  split at h
  · cases h
  rename_i c hc
  split at h
  case isFalse => cases h
  rename_i hlen
  have hxl : xs.size = args.length := by have := hx.length; simpa using this
  have hE : ER [] ρ fn.ntmps (env0 args) { tmps := xs ++ Array.replicate (fn.ntmps - xs.size) undef, defers := [] } := by
    refine ⟨by simp; omega, fun t => ?_, rfl⟩
    unfold env0
    rw [List.getD_eq_getElem?_getD, Array.getD_eq_getD_getElem?]
    cases ht : args[t]? with
    | none =>
      have : ((xs ++ Array.replicate (fn.ntmps - xs.size) undef)[t]?).getD undef = undef := by
        have hge : args.length ≤ t := List.getElem?_eq_none_iff.1 ht
        rw [Array.getElem?_append_right (by omega)]
        rw [Array.getElem?_replicate]
        split <;> rfl
      rw [this]
      exact Rel.undef _
    | some u =>
      obtain ⟨y, hy, hr⟩ := hx.get t u ht
      have hy : xs[t]? = some y := by simpa using hy
      rw [Array.getElem?_append_left (Array.getElem?_eq_some_iff.1 hy).1, hy]
      exact hr
  refine (callsIn_wide (n := 3)).1 (callsIn_of_wp_marks hfn hc trivial ?_)
  have leave : ∀ (Ds : List Nat) (ρ1 : Rho) (a1 : Act) (e' : Env) (m1 : Mem) (l : List V), ER (Ds.map mark) ρ1 fn.ntmps e' a1 → resVs T e' m1 fn.results.toList = some l → Ds.Nodup → ∀ w1, (∀ D ∈ Ds, w.heap.size ≤ D ∧ w1.heap[D]? = some (.deferred (some []))) →
      Sim ρ1 m1 w1 → Step ρ m w ρ1 m1 w1 → LeavesInM Fence.wide 3 P fn a1.tmps (fun e w' => ∃ ρ' x, e = .returned x ∧ Rel ρ' (packV l) x ∧ Sim ρ' m1 w' ∧ Step ρ m w ρ' m1 w') (Ds.map mark) .returning w1 := by
    intro Ds ρ1 a1 e' m1 l hE1 hl
    have hE2 : ER a1.defers ρ1 fn.ntmps e' a1 := ⟨hE1.size, hE1.rel, rfl⟩
    clear hE1
    induction Ds with
    | nil =>
      intro _ w1 _ S1 st1
      obtain ⟨ys, h2, h3⟩ := resVs_ok (P := P) hT S1 hE2 hl
      have hres : (results fn a1.tmps).run P w1 = .ok (if h : ys.toArray.size = 1 then ys.toArray[0] else .tuple ys.toArray) w1 := by
        unfold results
        rw [Sem.run_bind, Array.mapM_eq_mapM_toList]
        simp only [Sem.run_map]
        have : (fn.results.toList.mapM fun (r : ResultVar) => (match r with | .tmp t => pure (a1.tmps.getD t undef) | .cell b t => do loadVar t (← asAddr (a1.tmps.getD b undef)) : Sem Value)).run P w1 = .ok ys w1 := h2
        erw [this]
        rfl
      exact ⟨_, hres, ρ1, _, rfl, packV_rel h3, S1, st1⟩
    | cons D Ds ih =>
      intro hnd w1 hD S1 st1
      obtain ⟨h1, h2⟩ := hD D (by simp)
      have hgb := grownBy_putObj' w1 D (.deferred none)
      refine ⟨by simp, .inl ⟨D, _, rfl, run_takeDeferred h2, ih (List.nodup_cons.1 hnd).2 _ ?_ (sim_grown S1 hgb (fun r e => by cases e; exact ⟨_, h2, rfl⟩)) (step_grown st1 hgb (fun r e => by cases e; exact h1))⟩⟩
      intro D' hD'
      have hne : D ≠ D' := fun e => (List.nodup_cons.1 hnd).1 (e ▸ hD')
      exact ⟨(hD D' (by simp [hD'])).1, (World.putObj_heap_other hne.symm).trans (hD D' (by simp [hD'])).2⟩
  have main : ∀ x e' m1, runC2 T call loop c (env0 args) m = some (x, e', m1) → (x = .normal ∨ x = .ret) → (∃ l, resVs T e' m1 fn.results.toList = some l ∧ v = packV l ∧ m' = m1) →
      c.wpIn (Fr none) 3 P (bodyPostM Fence.wide 3 P fn fun e w' => ∃ ρ' x, e = .returned x ∧ Rel ρ' v x ∧ Sim ρ' m' w' ∧ Step ρ m w ρ' m' w') { tmps := xs ++ Array.replicate (fn.ntmps - xs.size) undef, defers := [] } w := by
    rintro x e' m1 h1 hx1 ⟨l, hl, rfl, rfl⟩
    refine runC2_sound hF.iter hT hC hG hF.mixed hL hLg c (hcode c hc) _ _ _ _ _ h1 [] ρ _ w _ hE ⟨[], rfl, List.nodup_nil, by simp⟩ (Nat.le_refl _) S hs (env0_bel ha) ?_
    intro ds1 ρ1 a1 w1 hE1 hM1 S1 st1
    obtain ⟨Ds, q1, q2, q3⟩ := hM1
    subst q1
    have := leave Ds ρ1 a1 e' m' l hE1 hl q2 w1 q3 S1 st1
    rw [← hE1.defers] at this
    rcases hx1 with rfl | rfl <;> exact this
  split at h
  · cases h
  · rename_i x e' m1 hne h1
    split at h
    · rename_i l hl
      obtain ⟨rfl, rfl⟩ := Prod.mk.inj (Option.some.inj h)
      refine main x e' m1 h1 ?_ ⟨l, hl, rfl, rfl⟩
      cases x with
      | normal => exact .inl rfl
      | ret => exact .inr rfl
      | exit id => exact (hne _ rfl).elim
    · cases h
  · cases h
end Go.Proofs.YtefjnnghfloddaaGreat.Abs

/- What a function of the program computes on abstract values: the limit over all fuel, its equation, and that the model's call does the same. -/
namespace Go.Proofs.YtefjnnghfloddaaGreat.Abs
set_option linter.unusedVariables false
set_option linter.unusedSimpArgs false
variable {P : Program} {T : TT} {F : FT} {X : CallT}
def LeR (r r' : Run) : Prop := ∀ e m x, r e m = some x → r' e m = some x
def LeC (c c' : CallT) : Prop := ∀ f a m x, c f a m = some x → c' f a m = some x
theorem stepW_mono {c c' : CallT} (h : LeC c c') {ops : Array Oper} {e : Env} {m : Mem} {o : Oper} {x : V × Mem} (hx : stepW T c ops e m o = some x) : stepW T c' ops e m o = some x := by
  unfold stepW at hx ⊢
  split
  · rename_i hw
    rw [if_pos hw] at hx
    unfold stepOp at hx ⊢
    split
    · rename_i f args ts hop
      rw [hop] at hx
      simp only at hx
      split at hx
      · exact h _ _ _ _ hx
      · cases hx
    · rename_i hno
      split at hx
      · exact absurd (by assumption) (hno _ _ _)
      · exact hx
  · rename_i hw
    rw [if_neg hw] at hx
    exact hx
theorem runOps_mono {c c' : CallT} (h : LeC c c') {chk : Nat → Bool × List Op} {ops : Array Oper} : ∀ (is : List Nat) {e : Env} {m : Mem} {x : Env × Mem}, runOps T c chk ops is e m = some x → runOps T c' chk ops is e m = some x
  | [], e, m, x, hx => hx
  | i :: is, e, m, x, hx => by
    simp only [runOps] at hx ⊢
    cases ho : ops[i]? with
    | none => rw [ho] at hx; cases hx
    | some o =>
      rw [ho] at hx
      simp only at hx ⊢
      cases hs : stepW T c ops e m o with
      | none => rw [hs] at hx; cases hx
      | some q =>
        rw [hs] at hx
        rw [stepW_mono h hs]
        simp only at hx ⊢
        split at hx
        · rename_i hc
          rw [if_pos hc]
          split at hx
          · rename_i hp
            rw [if_pos hp]
            obtain ⟨h1, h2⟩ := chkS_some hx
            rw [chkS_of h2]
            exact runOps_mono h is h1
          · cases hx
        · rename_i hc
          rw [if_neg hc]
          obtain ⟨h1, h2⟩ := chkS_some hx
          rw [chkS_of h2]
          exact runOps_mono h is h1
theorem runC_mono {c c' : CallT} (h : LeC c c') {l l' : Run → Run} (hl : ∀ r r', LeR r r' → LeR (l r) (l' r')) : ∀ code, LeR (runC T c l code) (runC T c' l' code)
  | .skip, e, m, x, hx => hx
  | .ret, e, m, x, hx => hx
  | .exit id, e, m, x, hx => hx
  | .region id ops draw, e, m, x, hx => by
    simp only [runC] at hx ⊢
    split at hx
    · rename_i h1
      rw [runOps_mono h _ h1]
      exact hx
    · cases hx
  | .seq a b, e, m, x, hx => by
    simp only [runC] at hx ⊢
    split at hx
    · rename_i h1
      rw [runC_mono h hl a _ _ _ h1]
      exact runC_mono h hl b _ _ _ hx
    · rename_i x1 e1 m1 hne h1
      rw [runC_mono h hl a _ _ _ h1]
      cases x1 with
      | normal => exact (hne rfl).elim
      | ret => exact hx
      | exit id => exact hx
    · cases hx
  | .cond c a b, e, m, x, hx => by
    simp only [runC] at hx ⊢
    split at hx
    · split at hx
      · rename_i ht; rw [if_pos ht]; exact runC_mono h hl a _ _ _ hx
      · rename_i ht; rw [if_neg ht]; exact runC_mono h hl b _ _ _ hx
    · cases hx
  | .block id b, e, m, x, hx => by
    simp only [runC] at hx ⊢
    split at hx
    · rename_i h1
      rw [runC_mono h hl b _ _ _ h1]
      exact hx
    · rename_i x1 e1 m1 hne h1
      rw [runC_mono h hl b _ _ _ h1]
      cases x1 with
      | normal => exact hx
      | ret => exact hx
      | exit id => exact (hne _ rfl).elim
    · cases hx
  | .loop b, e, m, x, hx => by
    simp only [runC] at hx ⊢
    exact hl _ _ (runC_mono h hl b) _ _ _ hx
  | .rangeFunc .., e, m, x, hx => by simp only [runC] at hx; cases hx
  | .scope .., e, m, x, hx => by simp only [runC] at hx; cases hx
  | .label .., e, m, x, hx => by simp only [runC] at hx; cases hx
  | .goto .., e, m, x, hx => by simp only [runC] at hx; cases hx
  | .refuse .., e, m, x, hx => by simp only [runC] at hx; cases hx
theorem rngR_mono {caps : List V} {m0 : Mem} {p : Tmp} {r r' : Run} (h : LeR r r') {e : Env} : ∀ (vs : List V) {m : Mem} {x : Ex × Env × Mem}, rngR caps m0 p r e vs m = some x → rngR caps m0 p r' e vs m = some x
  | [], m, x, hx => hx
  | v :: vs, m, x, hx => by
    simp only [rngR] at hx ⊢
    split at hx
    · rename_i e2 m2 h1
      rw [h _ _ _ h1]
      simp only
      split at hx
      · rename_i hb; rw [if_pos hb]; exact rngR_mono h vs hx
      · cases hx
    · cases hx
theorem rngC_mono {f : Option V} {p : Tmp} {r r' : Run} (h : LeR r r') {e : Env} {m : Mem} {x : Ex × Env × Mem} (hx : rngC r f p e m = some x) : rngC r' f p e m = some x := by
  simp only [rngC] at hx ⊢
  split at hx
  · split at hx
    · exact rngR_mono h _ hx
    · cases hx
  · cases hx
theorem runC2_mono {c c' : CallT} (h : LeC c c') {l l' : Run → Run} (hl : ∀ r r', LeR r r' → LeR (l r) (l' r')) : ∀ code, LeR (runC2 T c l code) (runC2 T c' l' code)
  | .seq a b, e, m, x, hx => by
    simp only [runC2] at hx ⊢
    split at hx
    · rename_i h1
      rw [runC2_mono h hl a _ _ _ h1]
      exact runC2_mono h hl b _ _ _ hx
    · rename_i x1 e1 m1 hne h1
      rw [runC2_mono h hl a _ _ _ h1]
      cases x1 with
      | normal => exact (hne rfl).elim
      | ret => exact hx
      | exit id => exact hx
    · cases hx
  | .cond c a b, e, m, x, hx => by
    simp only [runC2] at hx ⊢
    split at hx
    · split at hx
      · rename_i ht; rw [if_pos ht]; exact runC2_mono h hl a _ _ _ hx
      · rename_i ht; rw [if_neg ht]; exact runC2_mono h hl b _ _ _ hx
    · cases hx
  | .block id b, e, m, x, hx => by
    simp only [runC2] at hx ⊢
    split at hx
    · rename_i h1
      rw [runC2_mono h hl b _ _ _ h1]
      exact hx
    · rename_i x1 e1 m1 hne h1
      rw [runC2_mono h hl b _ _ _ h1]
      cases x1 with
      | normal => exact hx
      | ret => exact hx
      | exit id => exact (hne _ rfl).elim
    · cases hx
  | .rangeFunc f ps a b, e, m, x, hx => by
    simp only [runC2] at hx ⊢
    split at hx
    · exact rngC_mono (runC_mono h hl (.seq a b)) hx
    · cases hx
  | .skip, e, m, x, hx => runC_mono h hl (.skip) _ _ _ hx
  | .ret, e, m, x, hx => runC_mono h hl (.ret) _ _ _ hx
  | .exit id, e, m, x, hx => runC_mono h hl (.exit id) _ _ _ hx
  | .region id ops draw, e, m, x, hx => runC_mono h hl (.region id ops draw) _ _ _ hx
  | .loop b, e, m, x, hx => runC_mono h hl (.loop b) _ _ _ hx
  | .scope .., e, m, x, hx => runC_mono h hl _ _ _ _ hx
  | .label .., e, m, x, hx => runC_mono h hl _ _ _ _ hx
  | .goto .., e, m, x, hx => runC_mono h hl _ _ _ _ hx
  | .refuse .., e, m, x, hx => runC_mono h hl _ _ _ _ hx
theorem loopN_mono : ∀ {k k' : Nat}, k ≤ k' → ∀ r r', LeR r r' → LeR (loopN k r) (loopN k' r')
  | 0, k', _, r, r', h, e, m, x, hx => by cases hx
  | k + 1, 0, hk, r, r', h, e, m, x, hx => by omega
  | k + 1, k' + 1, hk, r, r', h, e, m, x, hx => by
    simp only [loopN] at hx ⊢
    split at hx
    · rename_i h1
      rw [h _ _ _ h1]
      exact loopN_mono (by omega) r r' h _ _ _ hx
    · rename_i x1 e1 m1 hne h1
      rw [h _ _ _ h1]
      cases x1 with
      | normal => exact (hne rfl).elim
      | ret => exact hx
      | exit id => exact hx
    · cases hx
theorem runBody_mono {c c' : CallT} (h : LeC c c') {l l' : Run → Run} (hl : ∀ r r', LeR r r' → LeR (l r) (l' r')) {fn : Func} {args : List V} {m : Mem} {x : V × Mem} (hx : runBody T c l fn args m = some x) : runBody T c' l' fn args m = some x := by
  unfold runBody at hx ⊢
  cases hb : fn.body with
  | none => rw [hb] at hx; cases hx
  | some code =>
    rw [hb] at hx
    simp only at hx ⊢
    split at hx
    case isFalse => cases hx
    rename_i hlen
    rw [if_pos hlen]
    cases h1 : runC2 T c l code (env0 args) m with
    | none => rw [h1] at hx; cases hx
    | some q =>
      rw [runC2_mono h hl code _ _ _ h1]
      rw [h1] at hx
      exact hx
theorem callF_mono : ∀ {n n' : Nat}, n ≤ n' → LeC (callF T F X n) (callF T F X n')
  | 0, n', _, f, a, m, x, hx => by cases hx
  | n + 1, 0, h, f, a, m, x, hx => by omega
  | n + 1, n' + 1, h, f, a, m, x, hx => by
    simp only [callF] at hx ⊢
    split at hx
    · exact runBody_mono (callF_mono (by omega)) (fun r r' hr => loopN_mono (by omega) r r' hr) hx
    · exact hx
open Classical in
noncomputable def D (T : TT) (F : FT) (X : CallT) : CallT := fun f args m => if h : ∃ x, ∃ n, callF T F X n f args m = some x then some h.choose else none
open Classical in
noncomputable def loopD (r : Run) : Run := fun e m => if h : ∃ x, ∃ k, loopN k r e m = some x then some h.choose else none
theorem D_of {n : Nat} {f : FuncId} {args : List V} {m : Mem} {x : V × Mem} (h : callF T F X n f args m = some x) : D T F X f args m = some x := by
  unfold D
  have hex : ∃ x, ∃ n, callF T F X n f args m = some x := ⟨x, n, h⟩
  rw [dif_pos hex]
  obtain ⟨n', h'⟩ := hex.choose_spec
  have a := callF_mono (Nat.le_max_left n n') f args m x h
  have b := callF_mono (Nat.le_max_right n n') f args m _ h'
  rw [a] at b
  exact b.symm
theorem of_D {f : FuncId} {args : List V} {m : Mem} {x : V × Mem} (h : D T F X f args m = some x) : ∃ n, callF T F X n f args m = some x := by
  unfold D at h
  split at h
  · rename_i hex
    obtain ⟨n, hn⟩ := hex.choose_spec
    exact ⟨n, by rw [hn]; exact h⟩
  · cases h
theorem loopD_of {k : Nat} {r : Run} {e : Env} {m : Mem} {x : Ex × Env × Mem} (h : loopN k r e m = some x) : loopD r e m = some x := by
  unfold loopD
  have hex : ∃ x, ∃ k, loopN k r e m = some x := ⟨x, k, h⟩
  rw [dif_pos hex]
  obtain ⟨k', h'⟩ := hex.choose_spec
  have a := loopN_mono (Nat.le_max_left k k') r r (fun _ _ _ h => h) e m x h
  have b := loopN_mono (Nat.le_max_right k k') r r (fun _ _ _ h => h) e m _ h'
  rw [a] at b
  exact b.symm
theorem of_loopD {r : Run} {e : Env} {m : Mem} {x : Ex × Env × Mem} (h : loopD r e m = some x) : ∃ k, loopN k r e m = some x := by
  unfold loopD at h
  split at h
  · rename_i hex
    obtain ⟨n, hn⟩ := hex.choose_spec
    exact ⟨n, by rw [hn]; exact h⟩
  · cases h
theorem loopD_eq (r : Run) (e : Env) (m : Mem) : loopD r e m = match r e m with
    | some (.normal, e', m') => loopD r e' m'
    | some (x, e', m') => some (x, e', m')
    | none => none := by
  apply Option.ext
  intro x
  constructor
  · intro h
    obtain ⟨k, hk⟩ := of_loopD h
    cases k with
    | zero => cases hk
    | succ k =>
      simp only [loopN] at hk
      split at hk
      · rename_i h1; rw [h1]; exact loopD_of hk
      · rename_i x1 e1 m1 hne h1
        rw [h1]
        cases x1 with
        | normal => exact (hne rfl).elim
        | ret => exact hk
        | exit id => exact hk
      · cases hk
  · intro h
    split at h
    · rename_i e1 m1 h1
      obtain ⟨k, hk⟩ := of_loopD h
      refine loopD_of (k := k + 1) ?_
      simp only [loopN, h1]
      exact hk
    · rename_i x1 e1 m1 hne h1
      refine loopD_of (k := 1) ?_
      simp only [loopN, h1]
      cases x1 with
      | normal => exact (hne rfl).elim
      | ret => exact h
      | exit id => exact h
    · cases h
theorem D_le {n : Nat} : LeC (callF T F X n) (D T F X) := fun f a m x h => D_of h
theorem loop_le {n : Nat} : ∀ r r', LeR r r' → LeR (loopN n r) (loopD r') := fun r r' h e m x hx => loopD_of (loopN_mono (Nat.le_refl n) r r' h e m x hx)
theorem stepW_cont {ops : Array Oper} {e : Env} {m : Mem} {o : Oper} {x : V × Mem} (hx : stepW T (D T F X) ops e m o = some x) : ∃ n, ∀ n', n ≤ n' → stepW T (callF T F X n') ops e m o = some x := by
  unfold stepW at hx ⊢
  split
  · rename_i hw
    rw [if_pos hw] at hx
    unfold stepOp at hx ⊢
    split
    · rename_i f args ts hop
      rw [hop] at hx
      simp only at hx ⊢
      split at hx
      · rename_i g first cap l h1 h2
        obtain ⟨n, hn⟩ := of_D hx
        exact ⟨n, fun n' h => callF_mono h _ _ _ _ hn⟩
      · cases hx
    · rename_i hno
      split at hx
      · exact absurd (by assumption) (hno _ _ _)
      · exact ⟨0, fun _ _ => hx⟩
  · rename_i hw
    rw [if_neg hw] at hx
    exact ⟨0, fun _ _ => hx⟩
theorem runOps_cont {chk : Nat → Bool × List Op} {ops : Array Oper} : ∀ (is : List Nat) {e : Env} {m : Mem} {x : Env × Mem}, runOps T (D T F X) chk ops is e m = some x → ∃ n, ∀ n', n ≤ n' → runOps T (callF T F X n') chk ops is e m = some x
  | [], e, m, x, hx => ⟨0, fun _ _ => hx⟩
  | i :: is, e, m, x, hx => by
    simp only [runOps] at hx ⊢
    cases ho : ops[i]? with
    | none => rw [ho] at hx; cases hx
    | some o =>
      rw [ho] at hx
      simp only at hx ⊢
      cases hs : stepW T (D T F X) ops e m o with
      | none => rw [hs] at hx; cases hx
      | some q =>
        rw [hs] at hx
        obtain ⟨n1, h1⟩ := stepW_cont hs
        simp only at hx
        split at hx
        · rename_i hc
          split at hx
          · rename_i hp
            obtain ⟨hx, hx2⟩ := chkS_some hx
            obtain ⟨n2, h2⟩ := runOps_cont is hx
            refine ⟨max n1 n2, fun n' hn => ?_⟩
            rw [h1 n' (by omega)]
            simp only
            rw [if_pos hc, if_pos hp, chkS_of hx2]
            exact h2 n' (by omega)
          · cases hx
        · rename_i hc
          obtain ⟨hx, hx2⟩ := chkS_some hx
          obtain ⟨n2, h2⟩ := runOps_cont is hx
          refine ⟨max n1 n2, fun n' hn => ?_⟩
          rw [h1 n' (by omega)]
          simp only
          rw [if_neg hc, chkS_of hx2]
          exact h2 n' (by omega)
theorem loop_cont {r : Run} {r' : Nat → Run} (hr : ∀ e m x, r e m = some x → ∃ n, ∀ n', n ≤ n' → r' n' e m = some x) : ∀ (k : Nat) {e : Env} {m : Mem} {x : Ex × Env × Mem}, loopN k r e m = some x → ∃ n, ∀ n', n ≤ n' → loopN k (r' n') e m = some x
  | 0, e, m, x, hx => by cases hx
  | k + 1, e, m, x, hx => by
    simp only [loopN] at hx ⊢
    split at hx
    · rename_i h1
      obtain ⟨n1, g1⟩ := hr _ _ _ h1
      obtain ⟨n2, g2⟩ := loop_cont hr k hx
      refine ⟨max n1 n2, fun n' hn => ?_⟩
      rw [g1 n' (by omega)]
      exact g2 n' (by omega)
    · rename_i x1 e1 m1 hne h1
      obtain ⟨n1, g1⟩ := hr _ _ _ h1
      refine ⟨n1, fun n' hn => ?_⟩
      rw [g1 n' hn]
      cases x1 with
      | normal => exact (hne rfl).elim
      | ret => exact hx
      | exit id => exact hx
    · cases hx
theorem runC_cont : ∀ code {e : Env} {m : Mem} {x : Ex × Env × Mem}, runC T (D T F X) loopD code e m = some x → ∃ n, ∀ n', n ≤ n' → runC T (callF T F X n') (loopN n') code e m = some x
  | .skip, e, m, x, hx => ⟨0, fun _ _ => hx⟩
  | .ret, e, m, x, hx => ⟨0, fun _ _ => hx⟩
  | .exit id, e, m, x, hx => ⟨0, fun _ _ => hx⟩
  | .region id ops draw, e, m, x, hx => by
    simp only [runC] at hx ⊢
    split at hx
    · rename_i h1
      obtain ⟨n, hn⟩ := runOps_cont _ h1
      exact ⟨n, fun n' h => by rw [hn n' h]; exact hx⟩
    · cases hx
  | .seq a b, e, m, x, hx => by
    simp only [runC] at hx ⊢
    split at hx
    · rename_i h1
      obtain ⟨n1, g1⟩ := runC_cont a h1
      obtain ⟨n2, g2⟩ := runC_cont b hx
      exact ⟨max n1 n2, fun n' h => by rw [g1 n' (by omega)]; exact g2 n' (by omega)⟩
    · rename_i x1 e1 m1 hne h1
      obtain ⟨n1, g1⟩ := runC_cont a h1
      refine ⟨n1, fun n' h => ?_⟩
      rw [g1 n' h]
      cases x1 with
      | normal => exact (hne rfl).elim
      | ret => exact hx
      | exit id => exact hx
    · cases hx
  | .cond c a b, e, m, x, hx => by
    simp only [runC] at hx ⊢
    split at hx
    · split at hx
      · rename_i ht
        obtain ⟨n1, g1⟩ := runC_cont a hx
        exact ⟨n1, fun n' h => by rw [if_pos ht]; exact g1 n' h⟩
      · rename_i ht
        obtain ⟨n1, g1⟩ := runC_cont b hx
        exact ⟨n1, fun n' h => by rw [if_neg ht]; exact g1 n' h⟩
    · cases hx
  | .block id b, e, m, x, hx => by
    simp only [runC] at hx ⊢
    split at hx
    · rename_i h1
      obtain ⟨n1, g1⟩ := runC_cont b h1
      exact ⟨n1, fun n' h => by rw [g1 n' h]; exact hx⟩
    · rename_i x1 e1 m1 hne h1
      obtain ⟨n1, g1⟩ := runC_cont b h1
      refine ⟨n1, fun n' h => ?_⟩
      rw [g1 n' h]
      cases x1 with
      | normal => exact hx
      | ret => exact hx
      | exit id => exact (hne _ rfl).elim
    · cases hx
  | .loop b, e, m, x, hx => by
    simp only [runC] at hx ⊢
    obtain ⟨k, hk⟩ := of_loopD hx
    obtain ⟨n, hn⟩ := loop_cont (r' := fun n' => runC T (callF T F X n') (loopN n') b) (fun e m x h => runC_cont b h) k hk
    exact ⟨max n k, fun n' h => loopN_mono (k := k) (k' := n') (by omega) _ _ (fun _ _ _ h => h) _ _ _ (hn n' (by omega))⟩
  | .rangeFunc .., e, m, x, hx => by simp only [runC] at hx; cases hx
  | .scope .., e, m, x, hx => by simp only [runC] at hx; cases hx
  | .label .., e, m, x, hx => by simp only [runC] at hx; cases hx
  | .goto .., e, m, x, hx => by simp only [runC] at hx; cases hx
  | .refuse .., e, m, x, hx => by simp only [runC] at hx; cases hx
theorem rngR_cont {caps : List V} {m0 : Mem} {p : Tmp} {r : Run} {r' : Nat → Run} (hr : ∀ e m x, r e m = some x → ∃ n, ∀ n', n ≤ n' → r' n' e m = some x) {e : Env} : ∀ (vs : List V) {m : Mem} {x : Ex × Env × Mem}, rngR caps m0 p r e vs m = some x → ∃ n, ∀ n', n ≤ n' → rngR caps m0 p (r' n') e vs m = some x
  | [], m, x, hx => ⟨0, fun _ _ => hx⟩
  | v :: vs, m, x, hx => by
    simp only [rngR] at hx ⊢
    split at hx
    · rename_i e2 m2 h1
      split at hx
      · rename_i hb
        obtain ⟨n1, g1⟩ := hr _ _ _ h1
        obtain ⟨n2, g2⟩ := rngR_cont hr vs hx
        exact ⟨max n1 n2, fun n' h => by rw [g1 n' (by omega)]; simp only; rw [if_pos hb]; exact g2 n' (by omega)⟩
      · cases hx
    · cases hx
theorem runC2_cont : ∀ code {e : Env} {m : Mem} {x : Ex × Env × Mem}, runC2 T (D T F X) loopD code e m = some x → ∃ n, ∀ n', n ≤ n' → runC2 T (callF T F X n') (loopN n') code e m = some x
  | .seq a b, e, m, x, hx => by
    simp only [runC2] at hx ⊢
    split at hx
    · rename_i h1
      obtain ⟨n1, g1⟩ := runC2_cont a h1
      obtain ⟨n2, g2⟩ := runC2_cont b hx
      exact ⟨max n1 n2, fun n' h => by rw [g1 n' (by omega)]; exact g2 n' (by omega)⟩
    · rename_i x1 e1 m1 hne h1
      obtain ⟨n1, g1⟩ := runC2_cont a h1
      refine ⟨n1, fun n' h => ?_⟩
      rw [g1 n' h]
      cases x1 with
      | normal => exact (hne rfl).elim
      | ret => exact hx
      | exit id => exact hx
    · cases hx
  | .cond c a b, e, m, x, hx => by
    simp only [runC2] at hx ⊢
    split at hx
    · split at hx
      · rename_i ht
        obtain ⟨n1, g1⟩ := runC2_cont a hx
        exact ⟨n1, fun n' h => by rw [if_pos ht]; exact g1 n' h⟩
      · rename_i ht
        obtain ⟨n1, g1⟩ := runC2_cont b hx
        exact ⟨n1, fun n' h => by rw [if_neg ht]; exact g1 n' h⟩
    · cases hx
  | .block id b, e, m, x, hx => by
    simp only [runC2] at hx ⊢
    split at hx
    · rename_i h1
      obtain ⟨n1, g1⟩ := runC2_cont b h1
      exact ⟨n1, fun n' h => by rw [g1 n' h]; exact hx⟩
    · rename_i x1 e1 m1 hne h1
      obtain ⟨n1, g1⟩ := runC2_cont b h1
      refine ⟨n1, fun n' h => ?_⟩
      rw [g1 n' h]
      cases x1 with
      | normal => exact hx
      | ret => exact hx
      | exit id => exact (hne _ rfl).elim
    · cases hx
  | .rangeFunc f ps a b, e, m, x, hx => by
    simp only [runC2, rngC] at hx ⊢
    split at hx
    · split at hx
      · split at hx
        · exact rngR_cont (r' := fun n' => runC T (callF T F X n') (loopN n') (.seq a b)) (fun e m x h => runC_cont (.seq a b) h) _ hx
        · cases hx
      · cases hx
    · cases hx
  | .skip, e, m, x, hx => runC_cont (.skip) hx
  | .ret, e, m, x, hx => runC_cont (.ret) hx
  | .exit id, e, m, x, hx => runC_cont (.exit id) hx
  | .region id ops draw, e, m, x, hx => runC_cont (.region id ops draw) hx
  | .loop b, e, m, x, hx => runC_cont (.loop b) hx
  | .scope .., e, m, x, hx => runC_cont _ hx
  | .label .., e, m, x, hx => runC_cont _ hx
  | .goto .., e, m, x, hx => runC_cont _ hx
  | .refuse .., e, m, x, hx => runC_cont _ hx
theorem D_eq {f : FuncId} {fn : Func} (hf : F f = some fn) (args : List V) (m : Mem) : D T F X f args m = runBody T (D T F X) loopD fn args m := by
  apply Option.ext
  intro x
  constructor
  · intro h
    obtain ⟨n, hn⟩ := of_D h
    cases n with
    | zero => cases hn
    | succ n =>
      simp only [callF, hf] at hn
      exact runBody_mono D_le loop_le hn
  · intro h
    have h0 := h
    unfold runBody at h
    split at h
    · cases h
    rename_i c hc
    split at h
    case isFalse => cases h
    rename_i hlen
    cases h1 : runC2 T (D T F X) loopD c (env0 args) m with
    | none => rw [h1] at h; cases h
    | some q =>
      obtain ⟨n, hn⟩ := runC2_cont c h1
      refine D_of (n := n + 1) ?_
      simp only [callF, hf]
      unfold runBody
      rw [hc]
      simp only
      rw [if_pos hlen, hn n (Nat.le_refl n)]
      rw [h1] at h
      exact h
theorem callFunc_run (hF : FOk P F) {f : FuncId} {fn : Func} (hf : F f = some fn) (hb : fn.body.isSome = true) (args : Array Value) (w : World) : (callFunc f args).run P w = .ok (.enter f args) w := by
  obtain ⟨h1, h2, _⟩ := hF.fn f fn hf
  obtain ⟨c, hc⟩ := Option.isSome_iff_exists.1 hb
  have h3 : ¬ fn.name = "runtime.NumGoroutine" := by simpa using h2
  simp [callFunc, h1, h3, hc]
theorem callF_sound (hT : TOk P T) (hF : FOk P F) (hX : CallSound P X) (hXg : CallGood X) : ∀ n, CallSound P (callF T F X n) ∧ CallGood (callF T F X n)
  | 0 => by
    refine ⟨fun f args m v m' h _ _ => ?_, fun f args m v m' h _ _ => ?_⟩
    · cases h
    · cases h
  | n + 1 => by
    obtain ⟨ih1, ih2⟩ := callF_sound hT hF hX hXg n
    refine ⟨fun f args m v m' h hs ha => ?_, fun f args m v m' h hs ha => ?_⟩
    · simp only [callF] at h
      split at h
      · rename_i fn hf
        have hb : fn.body.isSome = true := by
          unfold runBody at h
          cases hb : fn.body with
          | none => rw [hb] at h; cases h
          | some c => rfl
        exact ⟨callFunc_run hF hf hb, fun ρ w xs hx S => runBody_sound hT ih1 ih2 hF (fun _ _ _ N c r hr hg => loopN_sound hr hg n) (fun r hr => loopN_good hr n) hf h hs ha hx S⟩
      · exact hX _ _ _ _ _ h hs ha
    · simp only [callF] at h
      split at h
      · exact runBody_good hF.iter hT ih2 (fun r hr => loopN_good hr n) h hs ha
      · exact hXg _ _ _ _ _ h hs ha
theorem D_sound (hT : TOk P T) (hF : FOk P F) (hX : CallSound P X) (hXg : CallGood X) : CallSound P (D T F X) ∧ CallGood (D T F X) := by
  refine ⟨fun f args m v m' h hs ha => ?_, fun f args m v m' h hs ha => ?_⟩
  · obtain ⟨n, hn⟩ := of_D h
    exact (callF_sound hT hF hX hXg n).1 _ _ _ _ _ hn hs ha
  · obtain ⟨n, hn⟩ := of_D h
    exact (callF_sound hT hF hX hXg n).2 _ _ _ _ _ hn hs ha
end Go.Proofs.YtefjnnghfloddaaGreat.Abs

/- Code as combinators; what is to be shown of a run. -/
namespace Go.Proofs.YtefjnnghfloddaaGreat.Abs
set_option linter.unusedVariables false
set_option linter.unusedSimpArgs false
theorem nr {α : Sort _} {a b : α} (h : a = b) : a = b := h
abbrev Reg := Env → Mem → Option (Env × Mem)
def sq (A B : Run) : Run := fun e m => match A e m with
  | some (.normal, e', m') => B e' m'
  | some (x, e', m') => some (x, e', m')
  | none => none
def cnd (c : Env → Option V) (A B : Run) : Run := fun e m => match c e with
  | some (.bool t) => if t then A e m else B e m
  | _ => none
def blk (id : Nat) (A : Run) : Run := fun e m => match A e m with
  | some (.exit j, e', m') => if j = id then some (.normal, e', m') else some (.exit j, e', m')
  | some (x, e', m') => some (x, e', m')
  | none => none
def rg (r : Reg) : Run := fun e m => match r e m with
  | some (e', m') => some (.normal, e', m')
  | none => none
def sk : Run := fun e m => some (.normal, e, m)
def rt : Run := fun e m => some (.ret, e, m)
def exi (id : Nat) : Run := fun e m => some (.exit id, e, m)
noncomputable def rf (f : Env → Option V) (p : Tmp) (r : Run) : Run := fun e m => rngC r (f e) p e m
def bnd (x : Option (V × Mem)) (k : V → Mem → Option (Env × Mem)) : Option (Env × Mem) := match x with
  | none => none
  | some (v, m') => k v m'
def bp (x : Option V) (m : Mem) (k : V → Mem → Option (Env × Mem)) : Option (Env × Mem) := bnd (x.map (·, m)) k
def bg (v : V) (w : Bool) (x : Option (V × Mem)) (m : Mem) (k : V → Mem → Option (Env × Mem)) : Option (Env × Mem) :=
  bnd (if (match v with
    | .bool b => b == w
    | _ => false) = true then x else some (V.undef, m)) k
def lft (x : Option V) (m : Mem) : Option (V × Mem) := x.map (·, m)
def ups (e : Env) : List (Nat × V) → Env
  | [] => e
  | (d, v) :: l => ups (e.upd (some d) v) l
def fin (c : Run) (res : Env → Mem → Option (List V)) (args : List V) (m : Mem) : Option (V × Mem) := match c (env0 args) m with
  | some (.exit _, _, _) => none
  | some (_, e', m') => match res e' m' with
    | some l => some (packV l, m')
    | none => none
  | none => none
open Classical in
noncomputable def chkl (a b : Option V) (r : Option (Env × Mem)) : Option (Env × Mem) := if a = b then r else none
theorem chkl_of {a b : Option V} {r : Option (Env × Mem)} (h : a = b) : chkl a b r = r := if_pos h
def callV (call : CallT) (f : V) (l : List V) (m : Mem) : Option (V × Mem) := match f with
  | .fn g first cap => call g (first ++ l ++ cap) m
  | _ => none
def pickV (c x y : V) (m : Mem) : Option (V × Mem) := match some c, some x, some y with
  | some (.bool t), some x, some y => some (if t then x else y, m)
  | _, _, _ => none
def nilChk (x : V) (m : Mem) : Option (V × Mem) := match some x with
  | some (.ptr b o) => some (.ptr b o, m)
  | some (.fn f a c) => some (.fn f a c, m)
  | _ => none
def extV (x : V) (i : Nat) (m : Mem) : Option (V × Mem) := match some x with
  | some (.tup l) => (l[i]?).map (·, m)
  | _ => none
open Classical in
noncomputable def chkd (m m' : Mem) (r : Option (Env × Mem)) : Option (Env × Mem) := if m <+: m' then r else none
theorem codeOf {b : Option Code} {N : Nat} (e : b.map (codeOk2 N) = some true) : ∀ c, b = some c → codeOk2 N c = true := by
  intro c h
  rw [h] at e
  exact Option.some.inj e
def W (r : Option (Ex × Env × Mem)) (Q : Ex → Env → Mem → Prop) : Prop := ∃ x e m, r = some (x, e, m) ∧ Q x e m
def WR (r : Option (Env × Mem)) (Q : Env → Mem → Prop) : Prop := ∃ e m, r = some (e, m) ∧ Q e m
def WV (r : Option (V × Mem)) (Q : V → Mem → Prop) : Prop := ∃ v m, r = some (v, m) ∧ Q v m
def nx (B : Run) (Q : Ex → Env → Mem → Prop) : Ex → Env → Mem → Prop
  | .normal, e, m => W (B e m) Q
  | x, e, m => Q x e m
def inB (id : Nat) (Q : Ex → Env → Mem → Prop) : Ex → Env → Mem → Prop
  | .exit j, e, m => if j = id then Q .normal e m else Q (.exit j) e m
  | x, e, m => Q x e m
theorem WV.mono {r : Option (V × Mem)} {Q Q' : V → Mem → Prop} (h : WV r Q) (hq : ∀ v m, Q v m → Q' v m) : WV r Q' := by
  obtain ⟨v, m, e, h⟩ := h; exact ⟨v, m, e, hq v m h⟩
theorem W.mono {r : Option (Ex × Env × Mem)} {Q Q' : Ex → Env → Mem → Prop} (h : W r Q) (hq : ∀ x e m, Q x e m → Q' x e m) : W r Q' := by
  obtain ⟨x, e, m, a, h⟩ := h; exact ⟨x, e, m, a, hq x e m h⟩
theorem WR_some {e : Env} {m : Mem} {Q : Env → Mem → Prop} : WR (some (e, m)) Q ↔ Q e m := by
  constructor
  · rintro ⟨v', m', e, h⟩; obtain ⟨rfl, rfl⟩ := Prod.mk.inj (Option.some.inj e); exact h
  · exact fun h => ⟨e, m, rfl, h⟩
theorem W_sq {A B : Run} {e : Env} {m : Mem} {Q : Ex → Env → Mem → Prop} : W (sq A B e m) Q ↔ W (A e m) (nx B Q) := by
  constructor
  · rintro ⟨x, e', m', h, hq⟩
    unfold sq at h
    split at h
    · rename_i h1; exact ⟨_, _, _, h1, _, _, _, h, hq⟩
    · rename_i x1 e1 m1 hne h1
      simp only [Option.some.injEq, Prod.mk.injEq] at h
      obtain ⟨rfl, rfl, rfl⟩ := h
      refine ⟨_, _, _, h1, ?_⟩
      cases x1 with
      | normal => exact (hne rfl).elim
      | ret => exact hq
      | exit id => exact hq
    · cases h
  · rintro ⟨x, e', m', h, hq⟩
    unfold sq
    rw [h]
    cases x with
    | normal => exact hq
    | ret => exact ⟨_, _, _, rfl, hq⟩
    | exit id => exact ⟨_, _, _, rfl, hq⟩
theorem W_blk {id : Nat} {A : Run} {e : Env} {m : Mem} {Q : Ex → Env → Mem → Prop} : W (blk id A e m) Q ↔ W (A e m) (inB id Q) := by
  constructor
  · rintro ⟨x, e', m', h, hq⟩
    unfold blk at h
    split at h
    · rename_i j e1 m1 h1
      refine ⟨_, _, _, h1, ?_⟩
      simp only [inB]
      split at h
      · rename_i hj
        rw [if_pos hj]
        simp only [Option.some.injEq, Prod.mk.injEq] at h
        obtain ⟨rfl, rfl, rfl⟩ := h
        exact hq
      · rename_i hj
        rw [if_neg hj]
        simp only [Option.some.injEq, Prod.mk.injEq] at h
        obtain ⟨rfl, rfl, rfl⟩ := h
        exact hq
    · rename_i x1 e1 m1 hne h1
      simp only [Option.some.injEq, Prod.mk.injEq] at h
      obtain ⟨rfl, rfl, rfl⟩ := h
      refine ⟨_, _, _, h1, ?_⟩
      cases x1 with
      | normal => exact hq
      | ret => exact hq
      | exit id => exact (hne _ rfl).elim
    · cases h
  · rintro ⟨x, e', m', h, hq⟩
    unfold blk
    rw [h]
    cases x with
    | normal => exact ⟨_, _, _, rfl, hq⟩
    | ret => exact ⟨_, _, _, rfl, hq⟩
    | exit j =>
      simp only [inB] at hq
      simp only
      split at hq
      · rename_i hj; rw [if_pos hj]; exact ⟨_, _, _, rfl, hq⟩
      · rename_i hj; rw [if_neg hj]; exact ⟨_, _, _, rfl, hq⟩
theorem W_rg {r : Reg} {e : Env} {m : Mem} {Q : Ex → Env → Mem → Prop} : W (rg r e m) Q ↔ WR (r e m) (fun e m => Q .normal e m) := by
  constructor
  · rintro ⟨x, e', m', h, hq⟩
    unfold rg at h
    split at h
    · rename_i h1
      simp only [Option.some.injEq, Prod.mk.injEq] at h
      obtain ⟨rfl, rfl, rfl⟩ := h
      exact ⟨_, _, h1, hq⟩
    · cases h
  · rintro ⟨e', m', h, hq⟩
    unfold rg
    rw [h]
    exact ⟨_, _, _, rfl, hq⟩
theorem W_sk {e : Env} {m : Mem} {Q : Ex → Env → Mem → Prop} (h : Q .normal e m) : W (sk e m) Q := ⟨_, _, _, rfl, h⟩
theorem W_rt {e : Env} {m : Mem} {Q : Ex → Env → Mem → Prop} (h : Q .ret e m) : W (rt e m) Q := ⟨_, _, _, rfl, h⟩
theorem W_exi {id : Nat} {e : Env} {m : Mem} {Q : Ex → Env → Mem → Prop} (h : Q (.exit id) e m) : W (exi id e m) Q := ⟨_, _, _, rfl, h⟩
theorem W_cnd {c : Env → Option V} {A B : Run} {e : Env} {m : Mem} {Q : Ex → Env → Mem → Prop} (t : Bool) (hc : c e = some (.bool t)) (h1 : t = true → W (A e m) Q) (h2 : t = false → W (B e m) Q) : W (cnd c A B e m) Q := by
  unfold cnd
  rw [hc]
  cases t with
  | true => exact h1 rfl
  | false => exact h2 rfl
theorem WR_bnd {x : Option (V × Mem)} {k : V → Mem → Option (Env × Mem)} {Q : Env → Mem → Prop} (h : WV x fun v m' => WR (k v m') Q) : WR (bnd x k) Q := by
  obtain ⟨v, m, rfl, h⟩ := h; exact h
theorem bp_some {v : V} {m : Mem} {k : V → Mem → Option (Env × Mem)} : bp (some v) m k = k v m := nr rfl
theorem bnd_some {v : V} {m : Mem} {k : V → Mem → Option (Env × Mem)} : bnd (some (v, m)) k = k v m := nr rfl
theorem lft_some {v : V} {m : Mem} : lft (some v) m = some (v, m) := nr rfl
theorem bg_bool {b w : Bool} {x : Option (V × Mem)} {m : Mem} {k : V → Mem → Option (Env × Mem)} : bg (.bool b) w x m k = if b = w then bnd x k else k V.undef m := by
  unfold bg
  by_cases h : b = w
  · subst h; simp
  · have : (b == w) = false := by simpa using h
    simp [this, h, bnd]
theorem pickV_bool {t : Bool} {x y : V} {m : Mem} : pickV (.bool t) x y m = some (if t then x else y, m) := nr rfl
theorem nilChk_ptr {b o : Nat} {m : Mem} : nilChk (.ptr b o) m = some (.ptr b o, m) := nr rfl
theorem extV_tup {l : List V} {i : Nat} {m : Mem} : extV (.tup l) i m = (l[i]?).map (·, m) := nr rfl
theorem callV_fn {call : CallT} {g : FuncId} {a c l : List V} {m : Mem} : callV call (.fn g a c) l m = call g (a ++ l ++ c) m := nr rfl
theorem chkd_of {m m' : Mem} {r : Option (Env × Mem)} (h : m <+: m') : chkd m m' r = r := by unfold chkd; rw [if_pos h]
theorem chkd_app {m g : Mem} {r : Option (Env × Mem)} : chkd m (m ++ g) r = r := chkd_of (List.prefix_append _ _)
theorem chkd_self {m : Mem} {r : Option (Env × Mem)} : chkd m m r = r := chkd_of (List.prefix_refl _)
theorem WV_fin {c : Run} {res : Env → Mem → Option (List V)} {args : List V} {m : Mem} {Q : V → Mem → Prop} (h : W (c (env0 args) m) fun x e m' => (match x with | .exit _ => False | _ => True) ∧ ∃ l, res e m' = some l ∧ Q (packV l) m') : WV (fin c res args m) Q := by
  obtain ⟨x, e, m', h1, h2, l, h3, h4⟩ := h
  unfold fin
  rw [h1]
  cases x with
  | exit id => exact h2.elim
  | normal => simp only [h3]; exact ⟨_, _, rfl, h4⟩
  | ret => simp only [h3]; exact ⟨_, _, rfl, h4⟩
theorem W_loop {r : Run} {Q : Ex → Env → Mem → Prop} (I : Nat → Env → Mem → Prop) (h : ∀ k e m, I k e m → W (r e m) fun x e' m' => match x with | .normal => ∃ k', k' < k ∧ I k' e' m' | x => Q x e' m') :
    ∀ (k : Nat) (e : Env) (m : Mem), I k e m → W (loopD r e m) Q := by
  intro k
  induction k using Nat.strongRecOn with
  | _ k ih =>
    intro e m hI
    obtain ⟨x, e', m', h1, h2⟩ := h k e m hI
    rw [loopD_eq, h1]
    cases x with
    | normal =>
      obtain ⟨k', hk, hI'⟩ := h2
      exact ih k' hk e' m' hI'
    | ret => exact ⟨_, _, _, rfl, h2⟩
    | exit id => exact ⟨_, _, _, rfl, h2⟩
theorem ups_nil (e : Env) : ups e [] = e := nr rfl
theorem ups_cons (e : Env) (d : Nat) (v : V) (l : List (Nat × V)) : ups e ((d, v) :: l) = ups (e.upd (some d) v) l := nr rfl
theorem upd_get (e : Env) (d t : Nat) (v : V) : (e.upd (some d) v) t = if t = d then v else e t := nr rfl
end Go.Proofs.YtefjnnghfloddaaGreat.Abs
