/- A part of a proof of a law of the store, without conditions: its texts are: Pb Pa Pc Pd Pe Pf Pg Ph Pi Pj. -/
import Derived.Test.YtefjnnghfloddaaGreatGf
import Derived.Test.YtefjnnghfloddaaGreatGc
/- Slices that hold lists; blocks of the run's own; what stays. -/
namespace Go.Proofs.YtefjnnghfloddaaGreat.Abs
set_option linter.unusedVariables false
set_option linter.unusedSimpArgs false
def Keep (m m' : Mem) : Prop := m.length ≤ m'.length ∧ ∀ (b : Nat) (k : Blk), m[b]? = some k → k.st ≠ 0 → m'[b]? = some k
theorem Keep.refl (m : Mem) : Keep m m := ⟨Nat.le_refl _, fun _ _ h _ => h⟩
theorem Keep.trans {a b c : Mem} (h : Keep a b) (k : Keep b c) : Keep a c := ⟨Nat.le_trans h.1 k.1, fun i x hx hs => k.2 i x (h.2 i x hx hs) hs⟩
theorem Keep.pre {m m' : Mem} (h : m <+: m') : Keep m m' := by
  obtain ⟨g, rfl⟩ := h
  exact ⟨by simp, fun b k hb _ => At.app hb g⟩
theorem Keep.app (m g : Mem) : Keep m (m ++ g) := Keep.pre (List.prefix_append _ _)
abbrev Pre (m m' : Mem) : Prop := m <+: m'
theorem Pre.set {m m' : Mem} (h : Pre m m') {b : Nat} (hb : m.length ≤ b) (k : Blk) : Pre m (m'.set b k) := by
  obtain ⟨g, rfl⟩ := h
  refine ⟨g.set (b - m.length) k, ?_⟩
  rw [List.set_append_right _ _ hb]
theorem Pre.app {m m' : Mem} (h : Pre m m') (g : Mem) : Pre m (m' ++ g) := h.trans (List.prefix_append _ _)
theorem Pre.len {m m' : Mem} (h : Pre m m') : m.length ≤ m'.length := h.length_le
theorem Pre.at {m m' : Mem} (h : Pre m m') {b : Nat} {k : Blk} (hk : m[b]? = some k) : m'[b]? = some k := by
  obtain ⟨g, rfl⟩ := h
  exact At.app hk g
def Sl {α : Type} (R : V → α → Prop) (m : Mem) (v : V) (l : List α) : Prop :=
  (v = .nils ∧ l = []) ∨ (v = .sle ∧ l = []) ∨ ∃ b o c ex k, v = .sl b o l.length c 1 ex ∧ m[b]? = some k ∧ k.st ≠ 0 ∧ l.length ≤ c ∧ ∀ i (h : i < l.length), ∃ u, k.cells[o + i]? = some u ∧ R u l[i]
abbrev IsI (u : V) (x : Int) : Prop := u = I x
abbrev Ints (m : Mem) (v : V) (l : List Int) : Prop := Sl IsI m v l
abbrev Rows (m : Mem) (v : V) (l : List (List Int)) : Prop := Sl (Ints m) m v l
theorem Sl.mono {α : Type} {R R' : V → α → Prop} {m m' : Mem} {v : V} {l : List α} (h : Sl R m v l) (hR : ∀ u x, R u x → R' u x) (hm : Keep m m') : Sl R' m' v l := by
  rcases h with h | h | ⟨b, o, c, ex, k, h1, h2, h3, h4, h5⟩
  · exact .inl h
  · exact .inr (.inl h)
  · refine .inr (.inr ⟨b, o, c, ex, k, h1, hm.2 b k h2 h3, h3, h4, fun i hi => ?_⟩)
    obtain ⟨u, hu, hr⟩ := h5 i hi
    exact ⟨u, hu, hR u _ hr⟩
theorem Ints.keep {m m' : Mem} {v : V} {l : List Int} (h : Ints m v l) (hm : Keep m m') : Ints m' v l := Sl.mono h (fun _ _ h => h) hm
theorem Rows.keep {m m' : Mem} {v : V} {l : List (List Int)} (h : Rows m v l) (hm : Keep m m') : Rows m' v l := Sl.mono h (fun _ _ h => Ints.keep h hm) hm
theorem Ints.pre {m m' : Mem} {v : V} {l : List Int} (h : Ints m v l) (hm : Pre m m') : Ints m' v l := h.keep (.pre hm)
theorem Rows.pre {m m' : Mem} {v : V} {l : List (List Int)} (h : Rows m v l) (hm : Pre m m') : Rows m' v l := h.keep (.pre hm)
theorem Sl.len_of {α : Type} {R : V → α → Prop} {m : Mem} {v : V} {l : List α} (h : Sl R m v l) {T : TT} {t : TypeId} {i : TI} {e : TypeId} (ht : T t = some i) (hk : i.k = .slice e) : opLen T t v = some (I l.length) := by
  obtain ⟨k', s', z', b'⟩ := i
  simp only at hk
  subst hk
  rcases h with ⟨rfl, rfl⟩ | ⟨rfl, rfl⟩ | ⟨b, o, c, ex, k, rfl, _⟩ <;> simp [opLen, ht]
theorem Sl.vlen {α : Type} {R : V → α → Prop} {m : Mem} {v : V} {l : List α} (h : Sl R m v l) : v.len = some l.length := by
  rcases h with ⟨rfl, rfl⟩ | ⟨rfl, rfl⟩ | ⟨b, o, c, ex, k, rfl, _⟩ <;> rfl
theorem Sl.at_of {α : Type} {R : V → α → Prop} {m : Mem} {v : V} {l : List α} (h : Sl R m v l) {T : TT} {t e : TypeId} {i j : TI} (ht : T t = some i) (hk : i.k = .slice e) (he : T e = some j) (hz : j.size = 1) (ha : j.agg = false)
    {ix : Int} (h0 : 0 ≤ ix) (h1 : ix < l.length) : ∃ b o u, opIndexAddr T t v (I ix) = some (.ptr b o) ∧ opLoad T e (.ptr b o) m = some u ∧ ∀ x, l[ix.toNat]? = some x → R u x := by
  rcases h with ⟨_, rfl⟩ | ⟨_, rfl⟩ | ⟨b, o, c, ex, k, rfl, hb, hs, _, hc⟩
  · simp at h1; omega
  · simp at h1; omega
  · obtain ⟨u, hu, hr⟩ := hc ix.toNat (by omega)
    obtain ⟨cells, st⟩ := k
    refine ⟨b, o + ix.toNat, u, ?_, load_cell he ha hb hs hu, fun x hx => ?_⟩
    · rw [index_sl ht hk he hz.symm h0 (by omega), Nat.mul_one]
    · rw [List.getElem?_eq_getElem (by omega)] at hx
      obtain rfl := Option.some.inj hx
      exact hr
theorem Ints.len {m : Mem} {v : V} {l : List Int} (h : Ints m v l) : opLen T 22 v = some (I l.length) := h.len_of T22 rfl
theorem Rows.len {m : Mem} {v : V} {l : List (List Int)} (h : Rows m v l) : opLen T 25 v = some (I l.length) := h.len_of T25 rfl
theorem Ints.at {m : Mem} {v : V} {l : List Int} (h : Ints m v l) {ix : Int} (h0 : 0 ≤ ix) (h1 : ix < l.length) : ∃ b o, opIndexAddr T 22 v (I ix) = some (.ptr b o) ∧ lc m b o = some (I (l.getD ix.toNat 0)) := by
  obtain ⟨b, o, u, e1, e2, e3⟩ := h.at_of T22 rfl T3 rfl rfl h0 h1
  have hl : ix.toNat < l.length := by omega
  have := e3 l[ix.toNat] (by simp [hl])
  refine ⟨b, o, e1, ?_⟩
  rw [← ld3, e2, this]
  simp [hl]
theorem Rows.at {m : Mem} {v : V} {l : List (List Int)} (h : Rows m v l) {ix : Int} (h0 : 0 ≤ ix) (h1 : ix < l.length) : ∃ b o u, opIndexAddr T 25 v (I ix) = some (.ptr b o) ∧ lc m b o = some u ∧ Ints m u (l.getD ix.toNat []) := by
  obtain ⟨b, o, u, e1, e2, e3⟩ := h.at_of T25 rfl T22 rfl rfl h0 h1
  have hl : ix.toNat < l.length := by omega
  have := e3 l[ix.toNat] (by simp [hl])
  refine ⟨b, o, u, e1, (ld22 b o m) ▸ e2, ?_⟩
  simpa [hl] using this
def Fresh (m0 m : Mem) (v : V) (l : List Int) : Prop := ∃ b, v = .sl b 0 l.length l.length 1 true ∧ m0.length ≤ b ∧ At m b (l.map I) 2
theorem Fresh.ints {m0 m : Mem} {v : V} {l : List Int} (h : Fresh m0 m v l) : Ints m v l := by
  obtain ⟨b, rfl, _, ha⟩ := h
  refine .inr (.inr ⟨b, 0, _, true, _, rfl, ha, by simp, Nat.le_refl _, fun i hi => ⟨I l[i], by simp [hi], rfl⟩⟩)
def FreshV (m0 m : Mem) (v : V) (cs : List V) : Prop := (v = .nils ∧ cs = []) ∨ ∃ b ex, v = .sl b 0 cs.length cs.length 1 ex ∧ m0.length ≤ b ∧ At m b cs 2
abbrev FreshA (m0 m : Mem) (v : V) (l : List Int) : Prop := FreshV m0 m v (l.map I)
theorem FreshA.ints {m0 m : Mem} {v : V} {l : List Int} (h : FreshA m0 m v l) : Ints m v l := by
  rcases h with ⟨h1, h2⟩ | ⟨b, ex, rfl, _, ha⟩
  · exact .inl ⟨h1, by simpa using h2⟩
  · rw [List.length_map]
    exact .inr (.inr ⟨b, 0, _, ex, _, rfl, ha, by simp, Nat.le_refl _, fun i hi => ⟨I l[i], by simp [hi], rfl⟩⟩)
theorem At.ints {m : Mem} {b : Nat} {l : List Int} {st : Nat} (h : At m b (l.map I) st) (hs : st ≠ 0) (ex : Bool) : Ints m (.sl b 0 l.length l.length 1 ex) l :=
  .inr (.inr ⟨b, 0, _, ex, _, rfl, h, hs, Nat.le_refl _, fun i hi => ⟨I l[i], by simp [hi], rfl⟩⟩)
theorem lc_at {m : Mem} {b o : Nat} {l : List V} {st : Nat} (h : At m b l st) (hs : st ≠ 0) : lc m b o = l[o]? := by simp only [lc]; rw [h]; exact lcb_some o l st hs
theorem sc_at {m : Mem} {b o : Nat} {l : List V} (h : At m b l 2) {u : V} (hu : u.isCell = true) (ho : o < l.length) : sc m b o u = some (m.set b ⟨l.set o u, 2⟩) := by simp only [sc]; rw [h]; simp [hu, ho]
theorem sc_ints {m : Mem} {b : Nat} {l : List Int} (h : At m b (l.map I) 2) {o : Nat} {x : Int} (h1 : o < l.length) : sc m b o (I x) = some (m.set b ⟨(l.set o x).map I, 2⟩) := by
  rw [sc_at h rfl (by simp; omega), List.map_set]
theorem lc_ints {m : Mem} {b : Nat} {l : List Int} {st : Nat} (h : At m b (l.map I) st) (hs : st ≠ 0) {o : Nat} (h1 : o < l.length) : lc m b o = some (I (l.getD o 0)) := by
  rw [lc_at h hs]; simp [h1]
theorem Sl.cell {α : Type} {R : V → α → Prop} {m : Mem} {v : V} {l : List α} (h : Sl R m v l) : v.isCell = true := by
  rcases h with ⟨rfl, _⟩ | ⟨rfl, _⟩ | ⟨b, o, c, ex, k, rfl, _⟩ <;> rfl
@[simp] theorem cell_int (k : IntKind) (n : Int) : (V.int k n).isCell = true := nr rfl
@[simp] theorem cell_bool (b : Bool) : (V.bool b).isCell = true := nr rfl
@[simp] theorem cell_nils : V.nils.isCell = true := nr rfl
@[simp] theorem cell_sl (b o n c z : Nat) (ex : Bool) : (V.sl b o n c z ex).isCell = true := nr rfl
@[simp] theorem st3i (b o : Nat) (k : IntKind) (n : Int) (m : Mem) : opStore T 3 (.ptr b o) (.int k n) m = sc m b o (.int k n) := st3 b o _ m rfl
@[simp] theorem st4b (b o : Nat) (t : Bool) (m : Mem) : opStore T 4 (.ptr b o) (.bool t) m = sc m b o (.bool t) := st4 b o _ m rfl
@[simp] theorem get_app (m l : Mem) (i : Nat) : (m ++ l)[m.length + i]? = l[i]? := by rw [List.getElem?_append_right (Nat.le_add_right _ _), Nat.add_sub_cancel_left]
@[simp] theorem lc_app (m l : Mem) (i o : Nat) : lc (m ++ l) (m.length + i) o = lcb o l[i]? := by rw [lc, get_app]
@[simp] theorem lc_app0 (m l : Mem) (k : Blk) (o : Nat) : lc (m ++ k :: l) m.length o = lcb o (some k) := lc_app m (k :: l) 0 o
@[simp] theorem la_app (z : Nat) (m l : Mem) (i o : Nat) : la z (m ++ l) (m.length + i) o = lab z o l[i]? := by rw [la, get_app]
@[simp] theorem la_app0 (z : Nat) (m l : Mem) (k : Blk) (o : Nat) : la z (m ++ k :: l) m.length o = lab z o (some k) := la_app z m (k :: l) 0 o
@[simp] theorem sc_app (m l : Mem) (i o : Nat) (u : V) : sc (m ++ l) (m.length + i) o u = (scb o u l[i]?).map fun k => m ++ l.set i k := by
  rw [sc, get_app]
  cases scb o u l[i]? with
  | none => rfl
  | some k => simp
@[simp] theorem sc_app0 (m l : Mem) (k : Blk) (o : Nat) (u : V) : sc (m ++ k :: l) m.length o u = (scb o u (some k)).map fun k => m ++ k :: l := sc_app m (k :: l) 0 o u
@[simp] theorem chkd_app2 (m a b : Mem) (r : Option (Env × Mem)) (h : a <+: b) : chkd (m ++ a) (m ++ b) r = r := chkd_of (by obtain ⟨g, rfl⟩ := h; exact ⟨g, by simp⟩)
@[simp] theorem box_agg (l : List V) (m : Mem) (h : l.all V.isCell = true) : opBox (.agg l) m = some (.ptr m.length 0, m ++ [⟨l, 2⟩]) := by
  simp [opBox, V.cells]; simpa using h
theorem put_all {α : Type} (l : List α) (o : Nat) (xs : List α) (h : o + xs.length = l.length) : put l o xs = l.take o ++ xs := by
  apply List.ext_getElem?
  intro i
  rcases Nat.lt_or_ge i o with h1 | h1
  · rw [put_get_lt _ _ _ _ h1, List.getElem?_append_left (by simp; omega), List.getElem?_take_of_lt h1]
  · rcases Nat.lt_or_ge i l.length with h2 | h2
    · have := put_get_in l o xs (i - o) (by omega) (by omega)
      rw [show o + (i - o) = i by omega] at this
      rw [this, List.getElem?_append_right (by simp; omega)]
      simp [Nat.min_eq_left (show o ≤ l.length by omega)]
    · rw [List.getElem?_eq_none (by simpa using h2), List.getElem?_eq_none (by simp; omega)]
theorem cells_of {m : Mem} {b o n c k : Nat} {ex : Bool} {l : List V} {st : Nat} (h : At m b l st) (hs : st ≠ 0) (hk : k ≤ n) (hl : o + k ≤ l.length) : sliceCells 1 (.sl b o n c 1 ex) k m = some ((l.drop o).take k) := by
  unfold sliceCells
  by_cases h0 : k = 0
  · simp [h0]
  · simp [h0, hk, hs, hl, h]
theorem shift_copy {m : Mem} {b n : Nat} {out : List Int} (h : At m b (out.map I) 2) (hn : out.length = n + 1) : ∃ v, opCopy T 22 (.sl b 1 n n 1 true) (.sl b 0 n (n + 1) 1 true) m = some (v, m.set b ⟨(out.getD 0 0 :: out.take n).map I, 2⟩) := by
  have hc := cells_of (o := 0) (n := n) (c := n + 1) (k := n) (ex := true) h (by omega) (Nat.le_refl _) (by simp; omega)
  by_cases h0 : n = 0
  · subst h0
    refine ⟨I 0, ?_⟩
    simp only [opCopy, T22, T3, V.len]
    obtain ⟨x, rfl⟩ : ∃ x, out = [x] := by
      match out, hn with
      | [x], _ => exact ⟨x, rfl⟩
    have : m.set b ⟨[I x], 2⟩ = m := by
      apply List.ext_getElem?
      intro i
      by_cases hi : b = i
      · subst hi; rw [List.getElem?_set_self h.lt]; exact h.symm
      · rw [List.getElem?_set_ne hi]
    simp [this]
  · refine ⟨I n, ?_⟩
    have e : put (out.map I) 1 ((out.map I).take n) = (out.getD 0 0 :: out.take n).map I := by
      rw [put_all _ _ _ (by simp; omega)]
      match out, hn with
      | x :: out, _ => simp [List.map_take]
    simp only [opCopy, T22, T3, V.len, Nat.min_self, h0, if_false, hc, List.drop_zero]
    simp only [At] at h
    simp only [h, List.length_take, List.length_map]
    rw [if_pos (by simp; omega), e]
theorem slice22_lo {b o n c : Nat} {ex : Bool} {a : Int} (h0 : 0 ≤ a) (h1 : a ≤ n) (h2 : n ≤ c) : opSlice T 22 (.sl b o n c 1 ex) (some (I a)) none none = some (.sl b (o + a.toNat) (n - a.toNat) (c - a.toNat) 1 ex) := by
  have e1 : ((n : Int) - a).toNat = n - a.toNat := by omega
  have e2 : ((c : Int) - a).toNat = c - a.toNat := by omega
  simp [opSlice, T22, T3, optInt, h0, h1, h2, e1, e2]
theorem slice22_hi {b o n c : Nat} {ex : Bool} {a : Int} (h0 : 0 ≤ a) (h1 : a ≤ c) : opSlice T 22 (.sl b o n c 1 ex) none (some (I a)) none = some (.sl b o a.toNat c 1 ex) := by
  simp [opSlice, T22, T3, optInt, h0, h1]
def Off (v : V) (b : Nat) : Prop := ∀ o n c z ex, v ≠ .sl b o n c z ex
theorem Off.sl {b b' o n c z : Nat} {ex : Bool} (h : b ≠ b') : Off (.sl b o n c z ex) b' := by
  intro o n c z ex e; injection e; exact h ‹_›
theorem Off.nils (b : Nat) : Off .nils b := by intro o n c z ex e; cases e
theorem append_fresh {T : TT} {t t2 e e2 : TypeId} {i i2 j : TI} (ht : T t = some i) (hk : i.k = .slice e) (ht2 : T t2 = some i2) (hk2 : i2.k = .slice e2) (he : T e = some j) (hz : j.size = 1) (hb : j.bytes ≤ 1000)
    {m0 m : Mem} {s x : V} {cs news : List V} (hs : FreshV m0 m s cs) (h0 : Pre m0 m) (hx : x.len = some news.length) (hc : sliceCells 1 x news.length m = some news) (hl : cs.length + news.length ≤ 1000000000) :
    ∃ v' m', opAppend T t t2 s x m = some (v', m') ∧ FreshV m0 m' v' (cs ++ news) ∧ Pre m0 m' ∧ m.length ≤ m'.length ∧ (∀ b k, Off s b → m[b]? = some k → m'[b]? = some k) ∧ (∀ b, b < m.length → Off s b → Off v' b) := by
  obtain ⟨k1, s1, z1, b1⟩ := i
  obtain ⟨k2, s2, z2, b2⟩ := i2
  simp only at hk hk2
  subst hk hk2
  have hf : ∀ n, n ≤ 1000000000 → fitsIn n j.bytes = true := by
    intro n hn
    have h1 : n * j.bytes ≤ 1000000000 * 1000 := Nat.mul_le_mul hn hb
    simp [fitsIn]; omega
  rcases hs with ⟨rfl, rfl⟩ | ⟨b, ex, rfl, hb0, hat⟩
  · by_cases hn : news.length = 0
    · have : news = [] := List.length_eq_zero_iff.1 hn
      subst this
      simp only [List.length_nil] at hx hc
      exact ⟨.nils, m, by simp [opAppend, ht, ht2, hx, he, hz, hc], .inl ⟨rfl, rfl⟩, h0, Nat.le_refl _, fun _ _ _ h => h, fun _ _ h => h⟩
    · refine ⟨.sl m.length 0 news.length news.length 1 false, m ++ [⟨news, 2⟩], ?_, .inr ⟨m.length, false, by simp, h0.len, At.new1 _ _ _⟩, h0.app _, by simp, fun b k _ h => At.app h _, fun b hb _ => Off.sl (by omega)⟩
      simp [opAppend, ht, ht2, hx, he, hz, hc, hn, hf _ (show news.length ≤ 1000000000 by omega)]
  · by_cases hn : news.length = 0
    · have : news = [] := List.length_eq_zero_iff.1 hn
      subst this
      refine ⟨.sl b 0 cs.length cs.length 1 ex, m, ?_, .inr ⟨b, ex, by simp, hb0, by simpa using hat⟩, h0, Nat.le_refl _, fun _ _ _ h => h, fun _ _ h => h⟩
      simp only [opAppend, ht, ht2, hx, he, hz, hc]
      simp
    · have hcc := cells_of (o := 0) (n := cs.length) (c := cs.length) (k := cs.length) (ex := ex) hat (by omega) (Nat.le_refl _) (by omega)
      simp at hcc
      have hne : ¬ (cs.length + news.length ≤ cs.length) := by omega
      cases ex with
      | true =>
        refine ⟨.sl m.length 0 (cs ++ news).length (cs ++ news).length 1 false, m ++ [⟨cs ++ news, 2⟩], ?_, .inr ⟨m.length, false, rfl, h0.len, At.new1 _ _ _⟩, h0.app _, by simp, fun b k _ h => At.app h _, fun b hb _ => Off.sl (by omega)⟩
        simp only [opAppend, ht, ht2, hx, he, hz, hc, hne, hf _ hl, hcc]
        simp
      | false =>
        refine ⟨.sl m.length 0 (cs ++ news).length (cs ++ news).length 1 false, m.set b ⟨[], 0⟩ ++ [⟨cs ++ news, 2⟩], ?_, .inr ⟨m.length, false, rfl, h0.len, ?_⟩, (h0.set hb0 _).app _, by simp, fun b' k ho h => ?_, fun b hb _ => Off.sl (by omega)⟩
        · simp only [opAppend, ht, ht2, hx, he, hz, hc, hne, hf _ hl, hcc]
          simp only [At] at hat
          simp [hat]
        · have := At.new1 (m.set b ⟨[], 0⟩) (cs ++ news) 2
          simpa using this
        · have hne : b ≠ b' := by
            rintro rfl
            exact ho _ _ _ _ _ rfl
          exact At.app (l := k.cells) (st := k.st) (At.set_ne h hne) _
theorem lit22 (x : Int) (m : Mem) : opBuildSlice T 22 1 [(0, I x)] m = some (.sl m.length 0 1 1 1 true, m ++ [⟨[I x], 2⟩]) := by
  simp [opBuildSlice, T22, T3, fillA, zeros, V.cells]
theorem FreshV.app {m0 m : Mem} {v : V} {cs : List V} (h : FreshV m0 m v cs) (g : Mem) : FreshV m0 (m ++ g) v cs := by
  rcases h with h | ⟨b, ex, h1, h2, h3⟩
  · exact .inl h
  · exact .inr ⟨b, ex, h1, h2, h3.app g⟩
theorem FreshV.pre {m0 m m' : Mem} {v : V} {cs : List V} (h : FreshV m0 m v cs) (hm : Pre m m') : FreshV m0 m' v cs := by
  obtain ⟨g, rfl⟩ := hm; exact h.app g
theorem append22 {m0 m : Mem} {s : V} {l : List Int} {x : Int} (hs : FreshA m0 m s l) (h0 : Pre m0 m) (hl : l.length < 1000000000) :
    ∃ v' m', opAppend T 22 22 s (.sl m.length 0 1 1 1 true) (m ++ [⟨[I x], 2⟩]) = some (v', m') ∧ FreshA m0 m' v' (l ++ [x]) ∧ Pre m0 m' ∧ m.length ≤ m'.length ∧ (∀ b k, Off s b → m[b]? = some k → m'[b]? = some k) ∧ (∀ b, b < m.length → Off s b → Off v' b) := by
  obtain ⟨v', m', h1, h2, h3, h4, h5, h6⟩ := append_fresh (t := 22) (t2 := 22) (news := [I x]) T22 rfl T22 rfl T3 rfl (by decide) (hs.app [⟨[I x], 2⟩]) (h0.app _) (x := .sl m.length 0 1 1 1 true) rfl (by
    have := cells_of (o := 0) (n := 1) (c := 1) (k := 1) (ex := true) (At.new1 m [I x] 2) (by omega) (by omega) (by simp)
    simpa using this) (by simp; omega)
  simp only [List.length_append, List.length_cons, List.length_nil] at h4 h6
  exact ⟨v', m', h1, by rw [FreshA, List.map_append]; exact h2, h3, by omega, fun b k ho h => h5 b k ho (At.app (l := k.cells) (st := k.st) h _), fun b hb ho => h6 b (by omega) ho⟩
theorem Ints.cells {m : Mem} {v : V} {l : List Int} (h : Ints m v l) : sliceCells 1 v l.length m = some (l.map I) := by
  rcases h with ⟨rfl, rfl⟩ | ⟨rfl, rfl⟩ | ⟨b, o, c, ex, k, rfl, hb, hs, hc, he⟩
  · simp [sliceCells]
  · simp [sliceCells]
  · have hl : l ≠ [] → o + l.length ≤ k.cells.length := by
      intro hne
      have : 0 < l.length := List.length_pos_iff.2 hne
      obtain ⟨u, hu, _⟩ := he (l.length - 1) (by omega)
      have : o + (l.length - 1) < k.cells.length := by
        rcases Nat.lt_or_ge (o + (l.length - 1)) k.cells.length with h | h
        · exact h
        · rw [List.getElem?_eq_none h] at hu; cases hu
      omega
    by_cases hn : l = []
    · subst hn; simp [sliceCells]
    have hl := hl hn
    have h0 : l.length ≠ 0 := by simpa using hn
    simp only [sliceCells, h0, if_false, Nat.mul_one, hb]
    rw [if_pos (by simp), if_pos ⟨hs, hl⟩]
    congr 1
    apply List.ext_getElem?
    intro i
    rcases Nat.lt_or_ge i l.length with hi | hi
    · obtain ⟨u, hu, rfl⟩ := he i hi
      rw [List.getElem?_take_of_lt hi, List.getElem?_drop, hu]
      simp [hi]
    · rw [List.getElem?_eq_none (by simp; omega), List.getElem?_eq_none (by simpa using hi)]
theorem eq_nil22 {m : Mem} {v : V} {l : List Int} (h : Ints m v l) (hn : v ≠ .nils) : opBin T .eql 22 v .nils = some (.bool false) := by
  rcases h with ⟨rfl, _⟩ | ⟨rfl, _⟩ | ⟨b, o, c, ex, k, rfl, _⟩
  · exact (hn rfl).elim
  · simp [opBin, eqV, T22]
  · simp [opBin, eqV, T22]
@[simp] theorem eq_nils22 : opBin T .eql 22 .nils .nils = some (.bool true) := by simp [opBin, eqV, T22]
@[simp] theorem lit22_0 (m : Mem) : opBuildSlice T 22 0 [] m = some (.sl m.length 0 0 0 1 true, m ++ [⟨[], 2⟩]) := by
  simp [opBuildSlice, T22, T3, fillA, zeros]
theorem FreshV.lit0 (m0 m : Mem) (h : Pre m0 m) : FreshV m0 (m ++ [⟨[], 2⟩]) (.sl m.length 0 0 0 1 true) [] := .inr ⟨m.length, true, rfl, h.len, At.new1 _ _ _⟩
theorem append22l {m0 m : Mem} {s x : V} {l k : List Int} (hs : FreshA m0 m s l) (hx : Ints m x k) (h0 : Pre m0 m) (hl : l.length + k.length ≤ 1000000000) :
    ∃ v' m', opAppend T 22 22 s x m = some (v', m') ∧ FreshA m0 m' v' (l ++ k) ∧ Pre m0 m' ∧ m.length ≤ m'.length ∧ (∀ b k, Off s b → m[b]? = some k → m'[b]? = some k) ∧ (∀ b, b < m.length → Off s b → Off v' b) := by
  obtain ⟨v', m', h1, h2, h3, h4, h5, h6⟩ := append_fresh (t := 22) (t2 := 22) (news := k.map I) T22 rfl T22 rfl T3 rfl (by decide) hs h0 (x := x) (by simpa using hx.vlen) (by simpa using hx.cells) (by simpa using hl)
  exact ⟨v', m', h1, by rw [FreshA, List.map_append]; exact h2, h3, h4, h5, h6⟩
theorem append_lit {m : Mem} {x : V} {k : List Int} (hx : Ints m x k) (hl : k.length ≤ 1000000000) :
    ∃ v' m', opAppend T 22 22 (.sl m.length 0 0 0 1 true) x (m ++ [⟨[], 2⟩]) = some (v', m') ∧ FreshA m m' v' k ∧ Pre m m' ∧ Pre (m ++ [⟨[], 2⟩]) m' ∧ v' ≠ .nils := by
  obtain ⟨v', m', h1, h2, h3, h4, h5, h6⟩ := append22l (m0 := m) (l := []) (FreshV.lit0 m m (List.prefix_refl m)) (hx.keep (Keep.app _ _)) (List.prefix_append _ _) (by simpa using hl)
  have hform : (v' = .sl m.length 0 0 0 1 true ∧ m' = m ++ [⟨[], 2⟩] ∧ k = []) ∨ (∃ n c, v' = .sl (m.length + 1) 0 n c 1 false ∧ m' = m ++ [⟨[], 2⟩] ++ [⟨k.map I, 2⟩]) := by
    by_cases hk : k.length = 0
    · have hk' : k = [] := List.length_eq_zero_iff.1 hk
      subst hk'
      have hc := hx.cells (m := m)
      have hc2 := (hx.keep (Keep.app m [⟨[], 2⟩])).cells
      have hvl := hx.vlen
      simp at hc2 hvl
      simp [opAppend, T22, T3, hvl, hc2] at h1
      exact .inl ⟨h1.1.symm, h1.2.symm, rfl⟩
    · have hc2 := (hx.keep (Keep.app m [⟨[], 2⟩])).cells
      have hvl := hx.vlen
      have hf : fitsIn k.length 8 = true := by simp [fitsIn]; omega
      have hcc : sliceCells 1 (.sl m.length 0 0 0 1 true) 0 (m ++ [⟨[], 2⟩]) = some [] := by simp [sliceCells]
      simp only [opAppend, T22, T3, hvl, hc2, Nat.zero_add, hf, hcc] at h1
      simp [hk] at h1
      refine .inr ⟨k.length, k.length, by simp [h1.1.symm], by simp [h1.2.symm]⟩
  refine ⟨v', m', h1, by simpa using h2, h3, ?_, ?_⟩
  · rcases hform with ⟨_, rfl, _⟩ | ⟨_, _, _, rfl⟩
    · exact List.prefix_refl _
    · exact List.prefix_append _ _
  · rcases hform with ⟨rfl, _⟩ | ⟨_, _, rfl, _⟩
    · intro h; cases h
    · intro h; cases h
end Go.Proofs.YtefjnnghfloddaaGreat.Abs

/- Specifications: numbers and digits. -/
namespace Go.Proofs.YtefjnnghfloddaaGreat.Abs
set_option linter.unusedVariables false
set_option linter.unusedSimpArgs false
structure PrI (n : Int) (m : Mem) (k : Nat) (e : Env) (m' : Mem) : Prop where
  d : ∃ d : Int, e 0 = I n ∧ e 3 = I d ∧ 2 ≤ d ∧ d ≤ 258 ∧ (300 - d).toNat = k ∧ ∀ c, 2 ≤ c → c < d → c * c ≤ n → n % c ≠ 0
  m : m' = m
theorem isPrime_wv {n : Int} {m : Mem} {Q : V → Mem → Prop} (h : n ≤ 256) (hQ : ∀ b : Bool, (b = true ↔ isPr n) → Q (.bool b) m) : WV (DD 116 [I n] m) Q := by
  rw [e116]
  refine WV_fin ?_
  simp [r116_0, r116_1, r116_2, r116_3, r116_4, r116_5, r116_7, c116]
  refine W_loop (PrI n m) ?_ 298 _ _ ⟨⟨2, by simp, by simp, by omega, by omega, by omega, fun c h1 h2 => by omega⟩, rfl⟩
  rintro k e m' ⟨⟨d, h0, h3, hd, hd2, hk, hall⟩, rfl⟩
  have b1 := mul_bd (a := d) (b := d) (by omega) hd2 (by omega) hd2
  have e1 : IntKind.i64.wrap (d * d) = d * d := wrap64_in (by omega) (by omega)
  have e2 : IntKind.i64.wrap (d + 1) = d + 1 := wrap64_in (by omega) (by omega)
  by_cases hle : d * d ≤ n
  · have hdn : d < 17 := Decidable.byContradiction fun h => by have := sq_lt (a := d) (b := 17) (by omega) h; omega
    have e3 := bin_rem 3 n d T (by omega)
    rw [tmod_pos (by omega)] at e3
    simp [l116_6, r116_0, r116_1, r116_2, r116_3, r116_4, r116_5, r116_7, c116, h0, h3, e1, e3, hle]
    by_cases hz : n % d = 0
    · simp [hz]
      exact hQ false (by simp; exact fun hp => hp.2 d hd hle hz)
    · simp [hz, h0, h3, e2]
      refine ⟨(300 - (d + 1)).toNat, by omega, ⟨_, by simp [h0], by simp, by omega, by omega, rfl, fun c hc1 hc2 hc3 => ?_⟩, rfl⟩
      by_cases hcd : c = d
      · subst hcd; exact hz
      · exact hall c hc1 (by omega) hc3
  · simp [l116_6, r116_0, r116_1, r116_2, r116_3, r116_4, r116_5, r116_7, c116, h0, h3, e1, hle]
    refine hQ _ ?_
    simp
    refine ⟨fun h2 => ⟨h2, fun c hc1 hc3 => hall c hc1 ?_ hc3⟩, fun hp => hp.1⟩
    exact Decidable.byContradiction fun h => by have := sq_lt (a := c) (b := d) (by omega) h; omega
theorem pow_bd {p : Int} (hp : 2 ≤ p) (i : Nat) : 1 ≤ p ^ i := by
  induction i with
  | zero => simp
  | succ i ih =>
    rw [Int.pow_succ]
    have := (mul_bd (a := 1) (b := 2) (A := p ^ i) (B := p) (by omega) ih (by omega) hp).2
    omega
theorem pow_mono {p : Int} (hp : 2 ≤ p) {i j : Nat} (h : i ≤ j) : p ^ i ≤ p ^ j := by
  induction j with
  | zero => simp at h; subst h; exact Int.le_refl _
  | succ j ih =>
    by_cases e : i = j + 1
    · subst e; exact Int.le_refl _
    · have h1 := ih (by omega)
      have h0 := pow_bd hp i
      have h2 := (mul_bd (a := p ^ i) (b := 1) (A := p ^ j) (B := p) (by omega) h1 (by omega) (by omega)).2
      rw [Int.pow_succ]
      omega
structure OrI (p n : Int) (m : Mem) (k : Nat) (e : Env) (m' : Mem) : Prop where
  d : ∃ i : Nat, e 0 = I p ∧ e 5 = I (p ^ i) ∧ e 20 = I n ∧ e 21 = I i ∧ (i : Int) ≤ n ∧ p ^ i ≤ 256 ∧ n.toNat - i = k
  m : m' = m
theorem order_wv {p n : Int} {m : Mem} {Q : V → Mem → Prop} (hQ : Q (I (ordF p n)) m) : WV (DD 78 [I p, I n] m) Q := by
  rw [e78]
  refine WV_fin ?_
  by_cases h1 : p < 2
  · have : ordF p n = 0 := by unfold ordF; rw [if_neg (by omega)]
    simp [r78_0, r78_1, r78_2, r78_3, r78_4, r78_5, r78_6, r78_7, r78_8, r78_9, r78_11, c78, h1]; rwa [this] at hQ
  by_cases h2 : p > 256
  · have : ordF p n = 0 := by unfold ordF; rw [if_neg (by omega)]
    simp [r78_0, r78_1, r78_2, r78_3, r78_4, r78_5, r78_6, r78_7, r78_8, r78_9, r78_11, c78, h1, h2]; rwa [this] at hQ
  by_cases h3 : n < 1
  · have : ordF p n = 0 := by unfold ordF; rw [if_neg (by omega)]
    simp [r78_0, r78_1, r78_2, r78_3, r78_4, r78_5, r78_6, r78_7, r78_8, r78_9, r78_11, c78, h1, h2, h3]; rwa [this] at hQ
  by_cases h4 : n > 8
  · have : ordF p n = 0 := by unfold ordF; rw [if_neg (by omega)]
    simp [r78_0, r78_1, r78_2, r78_3, r78_4, r78_5, r78_6, r78_7, r78_8, r78_9, r78_11, c78, h1, h2, h3, h4]; rwa [this] at hQ
  simp [r78_0, r78_1, r78_2, r78_3, r78_4, r78_5, r78_6, r78_7, r78_8, r78_9, r78_11, c78, h1, h2, h3, h4]
  refine W_loop (OrI p n m) ?_ n.toNat _ _ ⟨⟨0, by simp, by simp, by simp, by simp, by omega, by simp, by omega⟩, rfl⟩
  rintro k e m' ⟨⟨i, e0, e5, e20, e21, hi, hq, hk⟩, rfl⟩
  have b0 := pow_bd (p := p) (by omega) i
  have b1 := mul_bd (a := p ^ i) (b := p) (A := 256) (B := 256) (by omega) hq (by omega) (by omega)
  have w1 : IntKind.i64.wrap (p ^ i * p) = p ^ i * p := wrap64_in (by omega) (by omega)
  have w2 : IntKind.i64.wrap ((i : Int) + 1) = i + 1 := wrap64_in (by omega) (by omega)
  by_cases hl : (i : Int) < n
  · by_cases hb : p ^ i * p > 256
    · have : ordF p n = 0 := by
        unfold ordF; rw [if_neg]
        rintro ⟨_, _, _, _, h⟩
        have := pow_mono (p := p) (by omega) (i := i + 1) (j := n.toNat) (by omega)
        rw [Int.pow_succ] at this
        omega
      rw [this] at hQ
      simp [l78_10, r78_0, r78_1, r78_2, r78_3, r78_4, r78_5, r78_6, r78_7, r78_8, r78_9, r78_11, c78, e0, e5, e20, e21, hl, w1, w2, hb, hQ]
    · simp [l78_10, r78_0, r78_1, r78_2, r78_3, r78_4, r78_5, r78_6, r78_7, r78_8, r78_9, r78_11, c78, e0, e5, e20, e21, hl, w1, w2, hb]
      exact ⟨n.toNat - (i + 1), by omega, ⟨i + 1, by simp [e0], by simp [Int.pow_succ], by simp [e20], by simp, by omega, by rw [Int.pow_succ]; omega, rfl⟩, rfl⟩
  · have : ordF p n = p ^ i := by
      have hn : n = i := by omega
      subst hn
      simp only [ordF, Int.toNat_natCast]
      rw [if_pos (by omega)]
    rw [this] at hQ
    simp [l78_10, r78_0, r78_1, r78_2, r78_3, r78_4, r78_5, r78_6, r78_7, r78_8, r78_9, r78_11, c78, e0, e5, e20, e21, hl, hQ]
structure DiI (p x : Int) (n : Nat) (m : Mem) (k : Nat) (e : Env) (m' : Mem) : Prop where
  d : ∃ (i : Nat) (l : List Int), e 0 = I (cut p i x) ∧ e 1 = I p ∧ e 7 = .sl m.length 0 n n 1 true ∧ e 12 = I n ∧ e 13 = I i ∧ i ≤ n ∧ n - i = k ∧ l.length = n ∧ m' = m ++ [⟨l.map I, 2⟩] ∧ ∀ j, j < i → l[j]? = some (cut p j x % p)
theorem digits_wv {x p n : Int} {m : Mem} {Q : V → Mem → Prop} (hx : 0 ≤ x) (hx2 : x ≤ 100000) (hp : 1 ≤ p) (hn : 0 ≤ n) (hn2 : n ≤ 1000) (hQ : Q (.sl m.length 0 n.toNat n.toNat 1 true) (m ++ [⟨(digs p n.toNat x).map I, 2⟩])) : WV (DD 144 [I x, I p, I n] m) Q := by
  obtain ⟨n, rfl⟩ : ∃ k : Nat, n = k := ⟨n.toNat, by omega⟩
  simp only [Int.toNat_natCast] at hQ
  rw [e144]
  refine WV_fin ?_
  simp [r144_0, r144_1, r144_2, r144_3, r144_4, r144_5, r144_6, r144_7, r144_9, c144, mk22 (l := n) (c := n) (by omega) (by omega) (by omega)]
  refine W_loop (DiI p x n m) ?_ n _ _ ⟨⟨0, List.replicate n 0, by simp [cut], by simp, by simp, by simp, by simp, by omega, by omega, by simp, by simp, fun j hj => by omega⟩⟩
  rintro k e m' ⟨⟨i, l, e0, e1, e7, e12, e13, hi, hk, hl, rfl, hd⟩⟩
  have hc := cut_nonneg (p := p) (by omega) (i := i) hx
  have hc2 := cut_le (p := p) (by omega) (i := i) hx
  have w2 : IntKind.i64.wrap ((i : Int) + 1) = i + 1 := wrap64_in (by omega) (by omega)
  by_cases hlt : i < n
  · have r1 := bin_rem 3 (cut p i x) p T (by omega)
    have r2 := bin_quo 3 (cut p i x) p T (by omega)
    rw [tmod_pos hc] at r1
    rw [tdiv_pos hc] at r2
    have hq0 := Int.ediv_nonneg hc (show 0 ≤ p by omega)
    have hq := Int.ediv_le_self p hc
    rw [wrap64_in (n := cut p i x / p) (by omega) (by omega)] at r2
    have ix := ia22 (b := m.length) (o := 0) (n := n) (c := n) (ex := true) (ix := i) (by omega) (by omega)
    have s1 := sc_ints (m := m ++ [⟨l.map I, 2⟩]) (b := m.length) (l := l) (At.new1 _ _ _) (o := i) (x := cut p i x % p) (by omega)
    simp [l144_8, r144_0, r144_1, r144_2, r144_3, r144_4, r144_5, r144_6, r144_7, r144_9, c144, e0, e1, e7, e12, e13, hlt, r1, r2, ix, s1, w2]
    refine ⟨n - (i + 1), by omega, ⟨i + 1, l.set i (cut p i x % p), by simp [cut], by simp [e1], by simp [e7], by simp [e12], by simp, by omega, rfl, by simp [hl], by simp [List.map_set], fun j hj => ?_⟩⟩
    by_cases e : j = i
    · subst e; simp [hl, hlt]
    · rw [List.getElem?_set_ne (by omega)]; exact hd j (by omega)
  · simp [l144_8, r144_0, r144_1, r144_2, r144_3, r144_4, r144_5, r144_6, r144_7, r144_9, c144, e0, e1, e7, e12, e13, hlt]
    have : l = digs p n x := by
      apply List.ext_getElem?
      intro j
      rcases Nat.lt_or_ge j n with h | h
      · rw [hd j (by omega), digs_get p n x j h]
      · rw [List.getElem?_eq_none (by omega), List.getElem?_eq_none (by simp; omega)]
    rw [← this] at hQ
    exact hQ
structure VaI (p : Int) (v : V) (l : List Int) (m : Mem) (k : Nat) (e : Env) (m' : Mem) : Prop where
  d : k ≤ l.length ∧ e 0 = v ∧ e 1 = I p ∧ e 5 = I (val p (l.drop k)) ∧ e 6 = I ((k : Int) - 1)
  m : m' = m
theorem Digs.drop {p : Int} {l : List Int} (h : Digs p l) (i : Nat) : Digs p (l.drop i) := by
  intro j hj
  have := h (i + j) (by simp at hj; omega)
  simpa [List.getD_eq_getElem?_getD, List.getElem?_drop] using this
theorem value_wv {v : V} {p : Int} {l : List Int} {m : Mem} {Q : V → Mem → Prop} (hv : Ints m v l) (hp : 2 ≤ p) (hd : Digs p l) (hb : p ^ l.length ≤ 256) (hl : l.length ≤ 1000) (hQ : Q (I (val p l)) m) : WV (DD 145 [v, I p] m) Q := by
  rw [e145]
  refine WV_fin ?_
  have hlen := hv.len
  have w0 : IntKind.i64.wrap ((l.length : Int) - 1) = l.length - 1 := wrap64_in (by omega) (by omega)
  simp [r145_0, r145_1, r145_2, r145_3, r145_4, r145_5, r145_7, c145, hlen, w0]
  refine W_loop (VaI p v l m) ?_ l.length _ _ ⟨⟨by omega, by simp, by simp, by simp [val], by simp⟩, rfl⟩
  rintro k e m' ⟨⟨hk, e0, e1, e5, e6⟩, rfl⟩
  by_cases hz : k = 0
  · subst hz
    simp [l145_6, r145_0, r145_1, r145_2, r145_3, r145_4, r145_5, r145_7, c145, e0, e1, e5, e6, val]
    simpa using hQ
  · have h0 : (0 : Int) ≤ (k : Int) - 1 := by omega
    obtain ⟨b, o, a1, a2⟩ := hv.at (ix := (k : Int) - 1) h0 (by omega)
    have ht : ((k : Int) - 1).toNat = k - 1 := by omega
    rw [ht] at a2
    have hv0 := val_bd (p := p) (by omega) _ (hd.drop k)
    have hv1 := val_bd (p := p) (by omega) _ (hd.drop (k - 1))
    rw [val_drop p l (k - 1) (by omega), show k - 1 + 1 = k by omega] at hv1
    have hpl := pow_mono hp (i := (l.drop (k - 1)).length) (j := l.length) (by simp)
    have hpl2 := pow_mono hp (i := (l.drop k).length) (j := l.length) (by simp)
    have hg := hd (k - 1) (by omega)
    have hpp : p ≤ 256 := by
      have := pow_mono hp (i := 1) (j := l.length) (by omega)
      rw [Int.pow_succ, Int.pow_zero, Int.one_mul] at this; omega
    have hm := mul_bd (a := p) (b := val p (l.drop k)) (by omega) hpp hv0.1 (by omega : val p (l.drop k) ≤ 256)
    have w1 : IntKind.i64.wrap (val p (l.drop k) * p) = val p (l.drop k) * p := by
      rw [Int.mul_comm]
      exact wrap64_in (by omega) (by omega)
    have w2 : IntKind.i64.wrap (val p (l.drop k) * p + l.getD (k - 1) 0) = val p (l.drop (k - 1)) := by
      rw [val_drop p l (k - 1) (by omega), show k - 1 + 1 = k by omega, Int.mul_comm, Int.add_comm]
      exact wrap64_in (by omega) (by omega)
    have w3 : IntKind.i64.wrap ((k : Int) - 1 - 1) = k - 1 - 1 := wrap64_in (by omega) (by omega)
    have h1 : (1 : Int) ≤ k := by omega
    simp [l145_6, r145_0, r145_1, r145_2, r145_3, r145_4, r145_5, r145_7, c145, e0, e1, e5, e6, h0, h1, a1, a2, w1, w2, w3, -List.getD_eq_getElem?_getD]
    refine ⟨k - 1, by omega, ⟨by omega, by simp [e0], by simp [e1], by simp, by simp; omega⟩, rfl⟩
end Go.Proofs.YtefjnnghfloddaaGreat.Abs

/- Specifications: the product of residues, powers. -/
namespace Go.Proofs.YtefjnnghfloddaaGreat.Abs
set_option linter.unusedVariables false
set_option linter.unusedSimpArgs false
structure Shp (p : Int) (n : Nat) (mod : List Int) : Prop where
  hp : 2 ≤ p
  hn : 1 ≤ n ∧ n ≤ 8
  hq : p ^ n ≤ 256
  hm : (n = 1 ∧ mod = []) ∨ (1 < n ∧ mod.length = n)
  dig : Digs p mod
theorem Shp.p2 {p : Int} {n : Nat} {mod : List Int} (h : Shp p n mod) : p ≤ 256 := by
  have := pow_mono h.hp (i := 1) (j := n) h.hn.1
  rw [Int.pow_succ, Int.pow_zero, Int.one_mul] at this
  have := h.hq
  omega
structure MuI (p x y : Int) (n : Nat) (mod : List Int) (vm : V) (m : Mem) (k : Nat) (e : Env) (m' : Mem) : Prop where
  d : ∃ (out : List Int), k ≤ n ∧ e 3 = .ptr m.length 0 ∧ e 7 = .sl (m.length + 1) 0 n n 1 true ∧ e 8 = .sl (m.length + 2) 0 n n 1 true ∧ e 9 = .sl (m.length + 3) 0 n n 1 true ∧ e 10 = I ((k : Int) - 1) ∧
    out = horn p mod (digs p n x) (List.replicate n 0) ((digs p n y).drop k) ∧
    m' = m ++ [⟨[I p, I n, vm], 2⟩, ⟨(digs p n x).map I, 2⟩, ⟨(digs p n y).map I, 2⟩, ⟨out.map I, 2⟩]
structure MiI (p x y : Int) (n : Nat) (mod : List Int) (vm : V) (m : Mem) (i : Nat) (out : List Int) (k : Nat) (e : Env) (m' : Mem) : Prop where
  d : ∃ (j : Nat) (l : List Int), j ≤ n ∧ e 3 = .ptr m.length 0 ∧ e 7 = .sl (m.length + 1) 0 n n 1 true ∧ e 8 = .sl (m.length + 2) 0 n n 1 true ∧ e 9 = .sl (m.length + 3) 0 n n 1 true ∧ e 10 = I ((i : Int)) ∧
    e 11 = I (out.getD (n - 1) 0) ∧ e 54 = I j ∧ e 53 = I n ∧ n - j = k ∧ l.length = n ∧
    (∀ t, t < j → l[t]? = (stepM p mod (digs p n x) out (cut p i y % p))[t]?) ∧ (∀ t, j ≤ t → t < n → l[t]? = some (if t = 0 then 0 else out.getD (t - 1) 0)) ∧
    m' = m ++ [⟨[I p, I n, vm], 2⟩, ⟨(digs p n x).map I, 2⟩, ⟨(digs p n y).map I, 2⟩, ⟨l.map I, 2⟩]
theorem multiply_wv {p x y : Int} {n : Nat} {mod : List Int} {vm : V} {m : Mem} {Q : V → Mem → Prop} (hS : Shp p n mod) (hv : Ints m vm mod) (hx : 0 ≤ x) (hx2 : x ≤ 100000) (hy : 0 ≤ y) (hy2 : y ≤ 100000)
    (hQ : ∀ m', Pre m m' → Q (I (mulM p n mod x y)) m') : WV (DD 118 [.agg [I p, I n, vm], I x, I y] m) Q := by
  have hp := hS.hp
  have hp2 := hS.p2
  have hn := hS.hn
  rw [e118]
  refine WV_fin ?_
  simp [r118_0, r118_1, r118_2, r118_3, r118_4, r118_5, r118_6, r118_7, r118_8, r118_9, r118_10, r118_11, r118_12, r118_13, r118_14, r118_15, r118_17, r118_19, c118, hv.cell]
  refine WR_bnd (digits_wv (p := p) (n := n) hx hx2 (by omega) (by omega) (by omega) ?_)
  simp
  refine WR_bnd (digits_wv (p := p) (n := n) hy hy2 (by omega) (by omega) (by omega) ?_)
  simp
  have wn : IntKind.i64.wrap ((n : Int) - 1) = n - 1 := wrap64_in (by omega) (by omega)
  simp [mk22 (l := n) (c := n) (by omega) (by omega) (by omega), wn]
  refine W_loop (MuI p x y n mod vm m) ?_ n _ _ ⟨⟨List.replicate n 0, by omega, by simp, by simp, by simp, by simp, by simp, by rw [List.drop_eq_nil_of_le (by simp)]; rfl, by simp⟩⟩
  rintro k e m' ⟨⟨out, hk, e3, e7, e8, e9, e10, ho, rfl⟩⟩
  have hol : out.length = n := by rw [ho]; simp
  have hod : Digs p out := by rw [ho]; exact horn_Digs (by omega) _ _ _ _ (rep_Digs (by omega) n)
  by_cases hz : k = 0
  · subst hz
    simp [l118_18, r118_0, r118_1, r118_2, r118_3, r118_4, r118_5, r118_6, r118_7, r118_8, r118_9, r118_10, r118_11, r118_12, r118_13, r118_14, r118_15, r118_17, r118_19, c118, e3, e7, e8, e9, e10]
    have hvo : Ints (m ++ [⟨[I p, I n, vm], 2⟩, ⟨(digs p n x).map I, 2⟩, ⟨(digs p n y).map I, 2⟩, ⟨out.map I, 2⟩]) (.sl (m.length + 3) 0 n n 1 true) out := by
      have := At.ints (m := m ++ [⟨[I p, I n, vm], 2⟩, ⟨(digs p n x).map I, 2⟩, ⟨(digs p n y).map I, 2⟩, ⟨out.map I, 2⟩]) (b := m.length + 3) (l := out) (st := 2) (by simp [At]) (by omega) true
      rwa [hol] at this
    refine WR_bnd (value_wv hvo hp hod (by rw [hol]; exact hS.hq) (by omega) ?_)
    simp
    have := hQ _ (List.prefix_append m [⟨[I p, I n, vm], 2⟩, ⟨(digs p n x).map I, 2⟩, ⟨(digs p n y).map I, 2⟩, ⟨out.map I, 2⟩])
    simp only [List.drop_zero] at ho
    rw [mulM, ← ho] at this
    exact this
  · have h1 : (1 : Int) ≤ k := by omega
    have i1 := ia22 (b := m.length + 3) (o := 0) (n := n) (c := n) (ex := true) (ix := (n : Int) - 1) (by omega) (by omega)
    have t1 : ((n : Int) - 1).toNat = n - 1 := by omega
    obtain ⟨v, hcp⟩ := shift_copy (m := m ++ [⟨[I p, I n, vm], 2⟩, ⟨(digs p n x).map I, 2⟩, ⟨(digs p n y).map I, 2⟩, ⟨out.map I, 2⟩]) (b := m.length + 3) (n := n - 1) (out := out) (by simp [At]) (by omega)
    rw [show n - 1 + 1 = n by omega] at hcp
    have s1 := slice22_lo (b := m.length + 3) (o := 0) (n := n) (c := n) (ex := true) (a := 1) (by omega) (by omega) (by omega)
    have s2 := slice22_hi (b := m.length + 3) (o := 0) (n := n) (c := n) (ex := true) (a := (n : Int) - 1) (by omega) (by omega)
    have i2 := ia22 (b := m.length + 3) (o := 0) (n := n) (c := n) (ex := true) (ix := 0) (by omega) (by omega)
    rw [t1] at i1 s2
    simp at s1 i2 hcp i1
    simp [l118_18, r118_0, r118_1, r118_2, r118_3, r118_4, r118_5, r118_6, r118_7, r118_8, r118_9, r118_10, r118_11, r118_12, r118_13, r118_14, r118_15, r118_17, r118_19, c118, e3, e7, e8, e9, e10, h1, wn, i1, i2, s1, s2, hcp, hol, show n - 1 < n by omega]
    have hd0 : ∀ t, 0 ≤ t → t < n → (0 :: out.take (n - 1))[t]? = some (if t = 0 then 0 else out.getD (t - 1) 0) := by
      intro t _ ht2
      cases t with
      | zero => simp
      | succ t => simp [List.getElem?_take, show t < n - 1 by omega, hol, show t < n by omega]
    refine W_loop (MiI p x y n mod vm m (k - 1) out) ?_ n _ _ ⟨⟨0, 0 :: out.take (n - 1), by omega, by simp [e3], by simp [e7], by simp [e8], by simp [e9], by simp [e10]; omega, by simp [hol, show n - 1 < n by omega], by simp, by simp, by omega, by simp [hol]; omega, fun t ht => by omega, hd0, by simp⟩⟩
    rintro k' e' m'' ⟨⟨j, l, hj, f3, f7, f8, f9, f10, f11, f54, f53, hk', hll, hd1, hd2, rfl⟩⟩
    have wj : IntKind.i64.wrap ((j : Int) + 1) = j + 1 := wrap64_in (by omega) (by omega)
    by_cases hlt : j < n
    · have hlow : 0 ≤ mod.getD j 0 ∧ mod.getD j 0 < p := by
        rcases hS.hm with ⟨_, rfl⟩ | ⟨_, hml⟩
        · simp; omega
        · exact hS.dig j (by omega)
      have htop := hod (n - 1) (by omega)
      have hprev : 0 ≤ (if j = 0 then 0 else out.getD (j - 1) 0) ∧ (if j = 0 then 0 else out.getD (j - 1) 0) < p := by
        split
        · omega
        · exact hod _ (by omega)
      have hb := digs_Digs (p := p) (by omega) n y (k - 1) (by simp; omega)
      have ha := digs_Digs (p := p) (by omega) n x j (by simp; omega)
      rw [digs_getD _ _ _ _ (by omega)] at hb ha
      have m1 := mul_bd (a := p - out.getD (n - 1) 0) (A := 256) (b := mod.getD j 0) (B := 256) (by omega) (by omega) hlow.1 (by omega)
      have m2 := mul_bd (a := cut p (k - 1) y % p) (A := 256) (b := cut p j x % p) (B := 256) hb.1 (by omega) ha.1 (by omega)
      have w1 : IntKind.i64.wrap (p - out.getD (n - 1) 0) = p - out.getD (n - 1) 0 := wrap64_in (by omega) (by omega)
      have w2 : IntKind.i64.wrap ((p - out.getD (n - 1) 0) * mod.getD j 0) = (p - out.getD (n - 1) 0) * mod.getD j 0 := wrap64_in (by omega) (by omega)
      have w3 : IntKind.i64.wrap ((if j = 0 then 0 else out.getD (j - 1) 0) + (p - out.getD (n - 1) 0) * mod.getD j 0) = (if j = 0 then 0 else out.getD (j - 1) 0) + (p - out.getD (n - 1) 0) * mod.getD j 0 := wrap64_in (by omega) (by omega)
      have w4 : IntKind.i64.wrap (cut p (k - 1) y % p * (cut p j x % p)) = cut p (k - 1) y % p * (cut p j x % p) := wrap64_in (by omega) (by omega)
      have w5 : IntKind.i64.wrap ((if j = 0 then 0 else out.getD (j - 1) 0) + (p - out.getD (n - 1) 0) * mod.getD j 0 + cut p (k - 1) y % p * (cut p j x % p)) = (if j = 0 then 0 else out.getD (j - 1) 0) + (p - out.getD (n - 1) 0) * mod.getD j 0 + cut p (k - 1) y % p * (cut p j x % p) := wrap64_in (by omega) (by omega)
      have r1 := bin_rem 3 ((if j = 0 then 0 else out.getD (j - 1) 0) + (p - out.getD (n - 1) 0) * mod.getD j 0 + cut p (k - 1) y % p * (cut p j x % p)) p T (by omega)
      rw [tmod_pos (by omega)] at r1
      have q1 := ia22 (b := m.length + 3) (o := 0) (n := n) (c := n) (ex := true) (ix := j) (by omega) (by omega)
      have q2 := ia22 (b := m.length + 1) (o := 0) (n := n) (c := n) (ex := true) (ix := j) (by omega) (by omega)
      have q3 := ia22 (b := m.length + 2) (o := 0) (n := n) (c := n) (ex := true) (ix := (k - 1 : Nat)) (by omega) (by omega)
      have g1 := hd2 j (by omega) hlt
      have g2 := digs_get p n x j hlt
      have g3 := digs_get p n y (k - 1) (by omega)
      have g1' : ∀ h : j < l.length, l[j]'h = (if j = 0 then 0 else out.getD (j - 1) 0) := fun h => by rw [List.getElem?_eq_getElem h] at g1; exact Option.some.inj g1
      have g2' : ∀ h : j < (digs p n x).length, (digs p n x)[j]'h = cut p j x % p := fun h => by rw [List.getElem?_eq_getElem h] at g2; exact Option.some.inj g2
      have g3' : ∀ h : k - 1 < (digs p n y).length, (digs p n y)[k - 1]'h = cut p (k - 1) y % p := fun h => by rw [List.getElem?_eq_getElem h] at g3; exact Option.some.inj g3
      have hst : ∀ t, t < j + 1 → (l.set j (((if j = 0 then 0 else out.getD (j - 1) 0) + (p - out.getD (n - 1) 0) * mod.getD j 0 + cut p (k - 1) y % p * (cut p j x % p)) % p))[t]? = (stepM p mod (digs p n x) out (cut p (k - 1) y % p))[t]? := by
        intro t ht
        by_cases e : t = j
        · subst e
          rw [List.getElem?_set_self (by omega)]
          have h := stepM_get p mod (digs p n x) out (cut p (k - 1) y % p) t (by omega)
          rw [hol, digs_getD _ _ _ _ hlt] at h
          have hl : t < (stepM p mod (digs p n x) out (cut p (k - 1) y % p)).length := by simp; omega
          rw [List.getElem?_eq_getElem hl, ← h, List.getD_eq_getElem?_getD, List.getElem?_eq_getElem hl]; rfl
        · rw [List.getElem?_set_ne (fun h => e h.symm)]; exact hd1 t (by omega)
      have hst2 : ∀ t, j + 1 ≤ t → t < n → (l.set j (((if j = 0 then 0 else out.getD (j - 1) 0) + (p - out.getD (n - 1) 0) * mod.getD j 0 + cut p (k - 1) y % p * (cut p j x % p)) % p))[t]? = some (if t = 0 then 0 else out.getD (t - 1) 0) := by
        intro t ht ht2
        rw [List.getElem?_set_ne (by omega)]; exact hd2 t (by omega) ht2
      by_cases hn1 : n = 1
      · have hmz : mod.getD j 0 = 0 := by
          rcases hS.hm with ⟨_, rfl⟩ | h
          · simp
          · omega
        rw [hmz] at w2 w3 w5 r1 hst hst2
        simp only [Int.mul_zero, Int.add_zero] at w2 w3 w5 r1 hst hst2
        have hgt : ¬ (1 : Int) < n := by omega
        simp [l118_16, r118_0, r118_1, r118_2, r118_3, r118_4, r118_5, r118_6, r118_7, r118_8, r118_9, r118_10, r118_11, r118_12, r118_13, r118_14, r118_15, r118_17, r118_19, c118, f3, f7, f8, f9, f10, f11, f54, f53, hlt, wj, q1, q2, q3, g1, g2, g3, g1', g2', g3', w1, w2, w3, w4, w5, r1, hgt, hll, -List.getD_eq_getElem?_getD]
        refine ⟨n - (j + 1), by omega, ⟨j + 1, _, by omega, by simp [f3], by simp [f7], by simp [f8], by simp [f9], by simp [f10], by simp [f11], by simp, by simp [f53], rfl, by simpa using hll, hst, hst2, by simp⟩⟩
      · have hgt : (1 : Int) < n := by omega
        obtain ⟨b, o, a1, a2⟩ := (hv.pre (List.prefix_append m [⟨[I p, I n, vm], 2⟩, ⟨(digs p n x).map I, 2⟩, ⟨(digs p n y).map I, 2⟩, ⟨l.map I, 2⟩])).at (ix := j) (by omega) (by rcases hS.hm with h | h <;> omega)
        simp only [Int.toNat_natCast] at a2
        simp [l118_16, r118_0, r118_1, r118_2, r118_3, r118_4, r118_5, r118_6, r118_7, r118_8, r118_9, r118_10, r118_11, r118_12, r118_13, r118_14, r118_15, r118_17, r118_19, c118, f3, f7, f8, f9, f10, f11, f54, f53, hlt, wj, q1, q2, q3, g1, g2, g3, g1', g2', g3', w1, w2, w3, w4, w5, r1, hgt, hll, a1, a2, -List.getD_eq_getElem?_getD]
        refine ⟨n - (j + 1), by omega, ⟨j + 1, _, by omega, by simp [f3], by simp [f7], by simp [f8], by simp [f9], by simp [f10], by simp [f11], by simp, by simp [f53], rfl, by simpa using hll, hst, hst2, by simp⟩⟩
    · have hjn : j = n := by omega
      have hle : l = stepM p mod (digs p n x) out (cut p (k - 1) y % p) := by
        apply List.ext_getElem?
        intro t
        rcases Nat.lt_or_ge t n with h | h
        · exact hd1 t (by omega)
        · rw [List.getElem?_eq_none (by omega), List.getElem?_eq_none (by simp; omega)]
      have wk : IntKind.i64.wrap (((k - 1 : Nat) : Int) - 1) = ((k - 1 : Nat) : Int) - 1 := wrap64_in (by omega) (by omega)
      simp [l118_16, r118_0, r118_1, r118_2, r118_3, r118_4, r118_5, r118_6, r118_7, r118_8, r118_9, r118_10, r118_11, r118_12, r118_13, r118_14, r118_15, r118_17, r118_19, c118, f3, f7, f8, f9, f10, f11, f54, f53, hlt, wk]
      refine ⟨k - 1, by omega, ⟨l, by omega, by simp [f3], by simp [f7], by simp [f8], by simp [f9], by simp, ?_, rfl⟩⟩
      rw [hle, ho]
      have hdr : (digs p n y).drop (k - 1) = (cut p (k - 1) y % p) :: (digs p n y).drop k := by
        rw [List.drop_eq_getElem_cons (by simp; omega)]
        have := digs_get p n y (k - 1) (by omega)
        rw [List.getElem?_eq_getElem (by simp; omega)] at this
        rw [Option.some.inj this, show k - 1 + 1 = k by omega]
      rw [hdr, horn]
end Go.Proofs.YtefjnnghfloddaaGreat.Abs

/- Specifications: powers and generators. -/
namespace Go.Proofs.YtefjnnghfloddaaGreat.Abs
set_option linter.unusedVariables false
set_option linter.unusedSimpArgs false
def Stop1 (p : Int) (n : Nat) (mod : List Int) (x : Int) (k : Nat) : Prop := pwr p n mod x k = 0 ∨ ∃ i, i < k ∧ pwr p n mod x i = pwr p n mod x k
def pwL (p : Int) (n : Nat) (mod : List Int) (x : Int) (k : Nat) : List Int := (List.range k).map (pwr p n mod x)
theorem pwr_bd {p x : Int} {n : Nat} {mod : List Int} (hS : Shp p n mod) (h0 : 0 ≤ x) (h1 : x < p ^ n) (i : Nat) : 0 ≤ pwr p n mod x i ∧ pwr p n mod x i < p ^ n := by
  match i with
  | 0 => have := pow_mono hS.hp (i := 1) (j := n) hS.hn.1; have := hS.hp; simp [pwr]; rw [Int.pow_succ, Int.pow_zero] at *; omega
  | 1 => exact ⟨h0, h1⟩
  | i + 2 => exact mulM_bd (by have := hS.hp; omega) _ _ _ _
structure PwI (p x : Int) (q n : Nat) (mod : List Int) (vm : V) (m : Mem) (c : Nat) (e : Env) (m' : Mem) : Prop where
  d : ∃ (k : Nat) (seen : List Bool) (v : V), e 3 = .ptr m.length 0 ∧ e 2 = I x ∧ e 7 = v ∧ e 8 = .sl (m.length + 2) 0 q q 1 true ∧ e 9 = I (pwr p n mod x k) ∧ Run1 p n mod x k ∧ k ≤ q ∧ q - k = c ∧
    seen.length = q ∧ (∀ j, j < q → (seen[j]? = some true ↔ ∃ i, i < k ∧ pwr p n mod x i = j)) ∧ Pre m m' ∧ At m' m.length [I p, I n, vm] 2 ∧ At m' (m.length + 2) (seen.map V.bool) 2 ∧ FreshA m m' v (pwL p n mod x k) ∧ Off v m.length ∧ Off v (m.length + 2) ∧ m.length + 2 < m'.length
theorem ia170 {b o n c : Nat} {ex : Bool} {ix : Int} (h0 : 0 ≤ ix) (h1 : ix < n) : opIndexAddr T 170 (.sl b o n c 1 ex) (I ix) = some (.ptr b (o + ix.toNat)) := by
  rw [index_sl T170 rfl T4 rfl h0 h1, Nat.mul_one]
theorem mk170 {l c : Int} (h0 : 0 ≤ l) (h1 : l ≤ c) (h2 : c ≤ 17592186044416) (m : Mem) : opMakeSlice T 170 (I l) (I c) m = some (.sl m.length 0 l.toNat c.toNat 1 true, m ++ [⟨List.replicate c.toNat (.bool false), 2⟩]) := by
  have : 0 ≤ l ∧ l ≤ c ∧ c * 1 ≤ 140737488355328 ∧ c ≤ 4611686018427387904 := by omega
  simp [opMakeSlice, T170, T4, this, zeros_one]; omega
theorem powers_wv {p x : Int} {q n : Nat} {mod : List Int} {vm : V} {m : Mem} {Q : V → Mem → Prop} (hS : Shp p n mod) (hq : (q : Int) = p ^ n) (hv : Ints m vm mod) (hx : 1 ≤ x) (hx2 : x < q)
    (hQ : ∀ k v m', Run1 p n mod x k → Stop1 p n mod x k → k < q → Pre m m' → Ints m' v (pwL p n mod x k) → v ≠ .nils → Q v m') : WV (DD 117 [.agg [I p, I n, vm], I q, I x] m) Q := by
  have hqb := hS.hq
  rw [e117]
  refine WV_fin ?_
  simp [r117_0, r117_1, r117_2, r117_3, r117_4, r117_5, r117_6, r117_7, r117_8, r117_10, c117, hv.cell, lit22]
  simp [mk170 (l := q) (c := q) (by omega) (by omega) (by omega), ia170 (b := m.length + 2) (o := 0) (n := q) (c := q) (ex := true) (ix := 1) (by omega) (by omega)]
  rw [if_pos (by omega)]
  simp
  have hpe : ∀ i, 0 ≤ pwr p n mod x i ∧ pwr p n mod x i < q := fun i => by have := pwr_bd hS (x := x) (by omega) (by omega) i; omega
  refine W_loop (PwI p x q n mod vm m) ?_ (q - 1) _ _ ⟨⟨1, (List.replicate q false).set 1 true, .sl (m.length + 1) 0 1 1 1 true, by simp, by simp, by simp, by simp, by simp [pwr], ?_, by omega, rfl, by simp, ?_, List.prefix_append _ _, by simp [At], by simp [At, List.map_set], .inr ⟨m.length + 1, true, by simp [pwL], by omega, by simp [At, pwL, pwr]⟩, Off.sl (by omega), Off.sl (by omega), by simp⟩⟩
  · rintro c e m' ⟨⟨k, seen, v, e3, e2, e7, e8, e9, hrun, hkq, hc, hsl, hseen, hpre, hb, hsb, hout, ho1, ho2, hml⟩⟩
    have hpk := hpe k
    have hint : Ints m' v (pwL p n mod x k) := hout.ints
    have hvn : v ≠ .nils := by
      rcases hout with ⟨_, h⟩ | ⟨b, ex, rfl, _⟩
      · have := hrun.1
        simp [pwL] at h; omega
      · intro h; cases h
    have hklt : k < q := by
      have := pigeon (q - 1) (k - 1) (fun i => (pwr p n mod x (i + 1)).toNat - 1) (by
        intro i hi
        have a := hpe (i + 1)
        have b := hrun.2.1 (i + 1) (by omega) (by omega)
        omega) (by
        intro i j hij hj
        have a := hpe (i + 1)
        have b := hrun.2.1 (i + 1) (by omega) (by omega)
        have a' := hpe (j + 1)
        have b' := hrun.2.1 (j + 1) (by omega) (by omega)
        have d := hrun.2.2 (i + 1) (j + 1) (by omega) (by omega)
        omega)
      have h2 := pigeon (q - 1) k (fun i => (pwr p n mod x i).toNat - 1) (by
        intro i hi
        have a := hpe i
        have b : pwr p n mod x i ≠ 0 := by
          rcases Nat.eq_zero_or_pos i with h | h
          · subst h; simp [pwr]
          · exact hrun.2.1 i h hi
        omega) (by
        intro i j hij hj
        have a := hpe i
        have a' := hpe j
        have b : pwr p n mod x i ≠ 0 := by
          rcases Nat.eq_zero_or_pos i with h | h
          · subst h; simp [pwr]
          · exact hrun.2.1 i h (by omega)
        have b' := hrun.2.1 j (by omega) hj
        have d := hrun.2.2 i j hij hj
        omega)
      omega
    have hix := ia170 (b := m.length + 2) (o := 0) (n := q) (c := q) (ex := true) (ix := pwr p n mod x k) hpk.1 hpk.2
    simp only [Nat.zero_add] at hix
    have hlt : (pwr p n mod x k).toNat < seen.length := by omega
    have hld : lc m' (m.length + 2) (pwr p n mod x k).toNat = some (.bool (seen[(pwr p n mod x k).toNat]'hlt)) := by
      rw [lc_at hsb (by omega)]; simp [hlt]
    by_cases hz : pwr p n mod x k = 0
    · have := hQ k v m' hrun (.inl hz) hklt hpre hint hvn
      simp [l117_9, r117_0, r117_1, r117_2, r117_3, r117_4, r117_5, r117_6, r117_7, r117_8, r117_10, c117, e3, e2, e7, e8, e9, hz, this]
    · cases hs : seen[(pwr p n mod x k).toNat]'hlt with
      | true =>
        have h1 := (hseen (pwr p n mod x k).toNat (by omega)).1 (by rw [List.getElem?_eq_getElem hlt, hs])
        obtain ⟨i, hi, he⟩ := h1
        have := hQ k v m' hrun (.inr ⟨i, hi, by rw [he]; omega⟩) hklt hpre hint hvn
        simp [l117_9, r117_0, r117_1, r117_2, r117_3, r117_4, r117_5, r117_6, r117_7, r117_8, r117_10, c117, e3, e2, e7, e8, e9, hz, hix, hld, hs, this]
      | false =>
        have hsc : sc m' (m.length + 2) (pwr p n mod x k).toNat (.bool true) = some (m'.set (m.length + 2) ⟨(seen.set (pwr p n mod x k).toNat true).map V.bool, 2⟩) := by
          rw [sc_at hsb rfl (by simpa using hlt), List.map_set]
        obtain ⟨v', m2, a1, a2, a3, a4, a5, a6⟩ := append22 (m := m'.set (m.length + 2) ⟨(seen.set (pwr p n mod x k).toNat true).map V.bool, 2⟩) (x := pwr p n mod x k) (by
          rcases hout with h | ⟨b, ex, h1, h2, h3⟩
          · exact .inl h
          · refine .inr ⟨b, ex, h1, h2, At.set_ne h3 ?_⟩
            rintro rfl
            exact ho2 _ _ _ _ _ h1) (hpre.set (by omega) _) (by simp [pwL]; omega)
        simp only [List.length_set] at a1
        have hbox := a5 m.length _ ho1 (At.set_ne hb (by omega))
        have hseen2 := a5 (m.length + 2) _ ho2 (At.set_self hsb)
        have hla : la 3 m2 m.length 0 = some (.agg [I p, I n, vm]) := by
          rw [la, hbox]; simp
        simp [l117_9, r117_0, r117_1, r117_2, r117_3, r117_4, r117_5, r117_6, r117_7, r117_8, r117_10, c117, e3, e2, e7, e8, e9, hz, hix, hld, hs, hsc, lit22, a1, hla, -List.map_set]
        refine WR_bnd (multiply_wv hS (hv.pre a3) hpk.1 (by omega) (by omega) (by omega) fun m3 h3 => ?_)
        simp
        have hk1 : pwr p n mod x (k + 1) = mulM p n mod (pwr p n mod x k) x := by
          obtain ⟨k', rfl⟩ : ∃ k', k = k' + 1 := ⟨k - 1, by have := hrun.1; omega⟩
          rfl
        have hnew : ∀ i, i < k → pwr p n mod x i ≠ pwr p n mod x k := by
          intro i hi he
          have := (hseen (pwr p n mod x k).toNat (by omega)).2 ⟨i, hi, by omega⟩
          rw [List.getElem?_eq_getElem hlt, hs] at this
          cases this
        refine ⟨q - (k + 1), by omega, ⟨k + 1, seen.set (pwr p n mod x k).toNat true, v', by simp [e3], by simp [e2], by simp, by simp [e8], by simp [hk1], ⟨by omega, ?_, ?_⟩, by omega, rfl, by simpa using hsl, ?_, a3.trans h3, h3.at hbox, h3.at hseen2, ?_, a6 _ (by simp; omega) ho1, a6 _ (by simp; omega) ho2, ?_⟩⟩
        · intro i h1 h2
          by_cases e : i = k
          · subst e; exact hz
          · exact hrun.2.1 i h1 (by omega)
        · intro i j h1 h2
          by_cases e : j = k
          · subst e; exact hnew i h1
          · exact hrun.2.2 i j h1 (by omega)
        · intro j hj
          by_cases e : (pwr p n mod x k).toNat = j
          · subst e
            rw [List.getElem?_set_self hlt]
            simp
            exact ⟨k, by omega, by omega⟩
          · rw [List.getElem?_set_ne e, hseen j hj]
            constructor
            · rintro ⟨i, h1, h2⟩; exact ⟨i, by omega, h2⟩
            · rintro ⟨i, h1, h2⟩
              by_cases e2 : i = k
              · subst e2; omega
              · exact ⟨i, by omega, h2⟩
        · have : pwL p n mod x (k + 1) = pwL p n mod x k ++ [pwr p n mod x k] := by simp [pwL, List.range_succ]
          rw [this]
          exact a2.pre h3
        · have := h3.len
          simp at a4
          omega
  · exact ⟨by omega, fun i h1 h2 => by omega, fun i j h1 h2 => by omega⟩
  · intro j hj
    by_cases e : 1 = j
    · subst e
      rw [List.getElem?_set_self (by simp; omega)]
      simp [pwr]
    · rw [List.getElem?_set_ne e]
      simp [hj, pwr]
      omega
theorem Run1.not_stop {p x : Int} {n : Nat} {mod : List Int} {k k' : Nat} (h : Run1 p n mod x k') (hs : Stop1 p n mod x k) (h1 : 1 ≤ k) : k' ≤ k := by
  refine Decidable.byContradiction fun hk => ?_
  rcases hs with h0 | ⟨i, hi, he⟩
  · exact h.2.1 k h1 (by omega) h0
  · exact h.2.2 i k hi (by omega) he
@[simp] theorem pwL_len (p : Int) (n : Nat) (mod : List Int) (x : Int) (k : Nat) : (pwL p n mod x k).length = k := by simp [pwL]
theorem pwL_get {p : Int} {n : Nat} {mod : List Int} {x : Int} {k i : Nat} (h : i < k) : (pwL p n mod x k).getD i 0 = pwr p n mod x i := by simp [pwL, h]
structure GnI (p : Int) (q n : Nat) (mod : List Int) (vm : V) (m : Mem) (c : Nat) (e : Env) (m' : Mem) : Prop where
  d : ∃ x : Nat, e 1 = I q ∧ e 2 = .ptr m.length 0 ∧ e 5 = I x ∧ 1 ≤ x ∧ x ≤ q ∧ q - x = c ∧ (∀ y : Nat, y < x → ¬ GenOf p n mod q y) ∧ Pre m m' ∧ At m' m.length [I p, I n, vm] 2
theorem generator_wv {p : Int} {q n : Nat} {mod : List Int} {vm : V} {m : Mem} {Q : V → Mem → Prop} (hS : Shp p n mod) (hq : (q : Int) = p ^ n) (hv : Ints m vm mod)
    (h1 : ∀ x v m', GenOf p n mod q x → Pre m m' → Ints m' v (pwL p n mod x (q - 1)) → v ≠ .nils → Q v m') (h2 : ∀ m', (∀ x, ¬ GenOf p n mod q x) → Pre m m' → Q .nils m') : WV (DD 79 [.agg [I p, I n, vm], I q] m) Q := by
  have hqb := hS.hq
  have hq2 : 2 ≤ q := by
    have := pow_mono hS.hp (i := 1) (j := n) hS.hn.1
    have := hS.hp
    rw [Int.pow_succ, Int.pow_zero] at *
    omega
  rw [e79]
  refine WV_fin ?_
  simp [r79_0, r79_1, r79_2, r79_3, r79_4, r79_5, r79_6, r79_8, c79, hv.cell]
  refine W_loop (GnI p q n mod vm m) ?_ (q - 1) _ _ ⟨⟨1, by simp, by simp, by simp, by omega, by omega, rfl, fun y hy hg => by have := hg.x1; omega, List.prefix_append _ _, by simp [At]⟩⟩
  rintro c e m' ⟨⟨x, e1, e2, e5, hx1, hxq, hc, hno, hpre, hb⟩⟩
  by_cases hlt : x < q
  · have hla : la 3 m' m.length 0 = some (.agg [I p, I n, vm]) := by rw [la, hb]; simp
    simp [l79_7, r79_0, r79_1, r79_2, r79_3, r79_4, r79_5, r79_6, r79_8, c79, e1, e2, e5, hlt, hla]
    refine WR_bnd (powers_wv hS hq (hv.pre hpre) (by omega) (by omega) fun k v m2 hrun hstop hkq hp2 hi hvn => ?_)
    have hb2 := hp2.at hb
    have hla2 : la 3 m2 m.length 0 = some (.agg [I p, I n, vm]) := by rw [la, hb2]; simp
    have hlen := hi.len
    simp at hlen
    have w1 : IntKind.i64.wrap ((q : Int) - 1) = q - 1 := wrap64_in (by omega) (by omega)
    have w2 : IntKind.i64.wrap ((q : Int) - 2) = q - 2 := wrap64_in (by omega) (by omega)
    have w3 : IntKind.i64.wrap ((x : Int) + 1) = x + 1 := wrap64_in (by omega) (by omega)
    have hpb : ∀ i, 0 ≤ pwr p n mod x i ∧ pwr p n mod x i < q := fun i => by have := pwr_bd hS (x := x) (by omega) (by omega) i; omega
    by_cases hk : k = q - 1
    · have hk' : (k : Int) = q - 1 := by omega
      obtain ⟨b, o, a1, a2⟩ := hi.at (ix := (q : Int) - 2) (by omega) (by simp; omega)
      rw [show ((q : Int) - 2).toNat = q - 2 by omega, pwL_get (by omega)] at a2
      simp [e1, e2, e5, hlen, w1, w2, hk', hla2, a1, a2]
      refine WR_bnd (multiply_wv hS ((hv.pre hpre).pre hp2) (hpb _).1 (by have := hpb (q - 2); omega) (by omega) (by omega) fun m3 hp3 => ?_)
      by_cases hone : mulM p n mod (pwr p n mod x (q - 2)) x = 1
      · simp [hone]
        refine h1 x v m3 ⟨by omega, by omega, hk ▸ hrun, hone⟩ (hpre.trans (hp2.trans hp3)) (hk ▸ hi.pre hp3) hvn
      · simp [hone, w3, e1, e2, e5]
        refine ⟨q - (x + 1), by omega, ⟨x + 1, by simp [e1], by simp [e2], by simp, by omega, by omega, rfl, fun y hy hg => ?_, hpre.trans (hp2.trans hp3), hp3.at hb2⟩⟩
        by_cases e : y = x
        · subst e; exact hone hg.one
        · exact hno y (by omega) hg
    · have hk' : ¬ ((k : Int) = q - 1) := by omega
      simp [e1, e2, e5, hlen, w1, w2, hk', w3]
      refine ⟨q - (x + 1), by omega, ⟨x + 1, by simp [e1], by simp [e2], by simp, by omega, by omega, rfl, fun y hy hg => ?_, hpre.trans hp2, hb2⟩⟩
      by_cases e : y = x
      · subst e
        have := hg.run.not_stop hstop hrun.1
        omega
      · exact hno y (by omega) hg
  · have : ∀ x, ¬ GenOf p n mod q x := by
      intro y hg
      have a := hg.x1
      have b := hg.xq
      have := hno y.toNat (by omega)
      rw [show ((y.toNat : Nat) : Int) = y by omega] at this
      exact this hg
    simp [l79_7, r79_0, r79_1, r79_2, r79_3, r79_4, r79_5, r79_6, r79_8, c79, e1, e2, e5, hlt]
    exact h2 m' this hpre
structure ShI (p n : Int) (mod : List Int) (vm : V) (m : Mem) (c : Nat) (e : Env) (m' : Mem) : Prop where
  d : ∃ i : Nat, e 1 = .ptr m.length 0 ∧ e 31 = vm ∧ e 32 = I mod.length ∧ e 33 = I i ∧ i ≤ mod.length ∧ mod.length - i = c ∧ (∀ j, j < i → 0 ≤ mod.getD j 0 ∧ mod.getD j 0 < p)
  m : m' = m ++ [⟨[I p, I n, vm], 2⟩]
def Shape (p n : Int) (mod : List Int) : Prop := ∃ k : Nat, n = k ∧ isPr p ∧ Shp p k mod
theorem Shape.ord {p n : Int} {mod : List Int} (h : Shape p n mod) : ordF p n = p ^ n.toNat ∧ ordF p n ≠ 0 := by
  obtain ⟨k, rfl, h1, h2⟩ := h
  have := pow_bd h2.hp k
  have := h2.hp
  have := h2.p2
  have := h2.hn
  have := h2.hq
  simp only [Int.toNat_natCast, ordF]
  rw [if_pos (by omega)]
  omega
theorem shape_wv {p n : Int} {mod : List Int} {vm : V} {m : Mem} {Q : V → Mem → Prop} (hv : Ints m vm mod) (hQ : ∀ b m', (b = true ↔ Shape p n mod) → Pre m m' → Q (.bool b) m') : WV (DD 77 [.agg [I p, I n, vm]] m) Q := by
  rw [e77]
  refine WV_fin ?_
  simp [r77_0, r77_1, r77_2, r77_3, r77_4, r77_5, r77_6, r77_7, r77_8, r77_9, r77_10, r77_11, r77_12, r77_14, c77, hv.cell]
  refine WR_bnd (order_wv ?_)
  by_cases h0 : ordF p n = 0
  · simp [h0]
    refine hQ false _ ?_ (List.prefix_append _ _)
    simp
    exact fun h => h.ord.2 h0
  have ho : 2 ≤ p ∧ p ≤ 256 ∧ 1 ≤ n ∧ n ≤ 8 ∧ p ^ n.toNat ≤ 256 := by
    unfold ordF at h0
    split at h0
    · assumption
    · exact (h0 rfl).elim
  obtain ⟨k, rfl⟩ : ∃ k : Nat, n = k := ⟨n.toNat, by omega⟩
  simp only [Int.toNat_natCast] at ho
  simp [h0]
  refine WR_bnd (isPrime_wv (by omega) fun b hb => ?_)
  cases b with
  | false =>
    simp
    refine hQ false _ ?_ (List.prefix_append _ _)
    simp at hb ⊢
    rintro ⟨k', h1, h2, h3⟩
    exact hb h2
  | true =>
    have hpr := hb.1 rfl
    have hlen := (hv.pre (List.prefix_append m [⟨[I p, I k, vm], 2⟩])).len
    by_cases h1 : k = 1
    · subst h1
      simp [hlen]
      refine hQ _ _ ?_ (List.prefix_append _ _)
      simp
      constructor
      · rintro rfl
        exact ⟨1, rfl, hpr, ho.1, by omega, by omega, .inl ⟨rfl, rfl⟩, fun i hi => by simp at hi⟩
      · rintro ⟨k', e, _, h⟩
        rcases h.hm with h | h
        · exact h.2
        · omega
    · have h1' : ¬ ((k : Int) = 1) := by omega
      simp [h1', hlen]
      by_cases hl : mod.length = k
      · simp [hl, hlen]
        refine W_loop (ShI p k mod vm m) ?_ mod.length _ _ ⟨⟨0, by simp, by simp, by simp [hl], by simp, by omega, rfl, fun j hj => by omega⟩, rfl⟩
        rintro c e m' ⟨⟨i, e1, e31, e32, e33, hi, hc, hall⟩, rfl⟩
        by_cases hlt : i < mod.length
        · obtain ⟨b, o, a1, a2⟩ := (hv.pre (List.prefix_append m [⟨[I p, I k, vm], 2⟩])).at (ix := i) (by omega) (by omega)
          have w1 : IntKind.i64.wrap ((i : Int) + 1) = i + 1 := wrap64_in (by omega) (by omega)
          simp only [Int.toNat_natCast] at a2
          by_cases g1 : mod.getD i 0 < 0
          · simp [l77_13, r77_0, r77_1, r77_2, r77_3, r77_4, r77_5, r77_6, r77_7, r77_8, r77_9, r77_10, r77_11, r77_12, r77_14, c77, e1, e31, e32, e33, hlt, a1, a2, g1, -List.getD_eq_getElem?_getD]
            refine hQ false _ ?_ (List.prefix_append _ _)
            simp
            rintro ⟨k', e, _, h⟩
            have := h.dig i hlt
            omega
          · by_cases g2 : mod.getD i 0 ≥ p
            · simp [l77_13, r77_0, r77_1, r77_2, r77_3, r77_4, r77_5, r77_6, r77_7, r77_8, r77_9, r77_10, r77_11, r77_12, r77_14, c77, e1, e31, e32, e33, hlt, a1, a2, g1, g2, -List.getD_eq_getElem?_getD]
              refine hQ false _ ?_ (List.prefix_append _ _)
              simp
              rintro ⟨k', e, _, h⟩
              have := h.dig i hlt
              omega
            · have g2' : ¬ (p ≤ mod.getD i 0) := g2
              simp [l77_13, r77_0, r77_1, r77_2, r77_3, r77_4, r77_5, r77_6, r77_7, r77_8, r77_9, r77_10, r77_11, r77_12, r77_14, c77, e1, e31, e32, e33, hlt, a1, a2, g1, g2', w1, -List.getD_eq_getElem?_getD]
              refine ⟨mod.length - (i + 1), by omega, ⟨i + 1, by simp [e1], by simp [e31], by simp [e32], by simp, by omega, rfl, fun j hj => ?_⟩, rfl⟩
              by_cases e : j = i
              · subst e; omega
              · exact hall j (by omega)
        · simp [l77_13, r77_0, r77_1, r77_2, r77_3, r77_4, r77_5, r77_6, r77_7, r77_8, r77_9, r77_10, r77_11, r77_12, r77_14, c77, e1, e31, e32, e33, hlt]
          refine hQ true _ ?_ (List.prefix_append _ _)
          simp
          exact ⟨k, rfl, hpr, ho.1, by omega, ho.2.2.2.2, .inr ⟨by omega, hl⟩, fun j hj => hall j (by omega)⟩
      · have hl' : ¬ ((mod.length : Int) = k) := by omega
        simp [hl', hlen]
        refine hQ false _ ?_ (List.prefix_append _ _)
        simp
        rintro ⟨k', e, _, h⟩
        obtain rfl : k = k' := by omega
        rcases h.hm with h | h
        · omega
        · exact hl h.2
end Go.Proofs.YtefjnnghfloddaaGreat.Abs

/- Specifications: a field is made. -/
namespace Go.Proofs.YtefjnnghfloddaaGreat.Abs
set_option linter.unusedVariables false
set_option linter.unusedSimpArgs false
structure Fd where
  p : Int
  n : Nat
  mod : List Int
  q : Nat
  x : Int
structure Fd.Ok (f : Fd) : Prop where
  pr : isPr f.p
  sh : Shp f.p f.n f.mod
  q : (f.q : Int) = f.p ^ f.n
  gen : GenOf f.p f.n f.mod f.q f.x
def Fd.pw (f : Fd) (i : Nat) : Int := pwr f.p f.n f.mod f.x i
structure GFAt (m : Mem) (v : V) (f : Fd) : Prop where
  ok : f.Ok
  at_ : ∃ b vm ve vl st log, v = .ptr b 0 ∧ m[b]? = some ⟨[I f.p, I f.n, vm, I f.q, ve, vl], st⟩ ∧ st ≠ 0 ∧ Ints m vm f.mod ∧ Ints m ve (pwL f.p f.n f.mod f.x (f.q - 1)) ∧ Ints m vl log ∧ log.length = f.q ∧ ∀ i, i < f.q - 1 → log.getD (f.pw i).toNat 0 = i
theorem GFAt.keep {m m' : Mem} {v : V} {f : Fd} (h : GFAt m v f) (hm : Keep m m') : GFAt m' v f := by
  obtain ⟨ok, b, vm, ve, vl, st, log, h1, h2, h3, h4, h5, h6, h7, h8⟩ := h
  exact ⟨ok, b, vm, ve, vl, st, log, h1, hm.2 _ _ h2 h3, h3, h4.keep hm, h5.keep hm, h6.keep hm, h7, h8⟩
theorem GFAt.pre {m m' : Mem} {v : V} {f : Fd} (h : GFAt m v f) (hm : Pre m m') : GFAt m' v f := h.keep (.pre hm)
def IsF (p n : Int) (mod : List Int) : Prop := ∃ f : Fd, f.Ok ∧ p = f.p ∧ n = f.n ∧ mod = f.mod
theorem fieldCheck_wv {p n : Int} {mod : List Int} {vm : V} {m : Mem} {Q : V → Mem → Prop} (hv : Ints m vm mod) (h1 : IsF p n mod → ∀ m', Pre m m' → Q (I 0) m') (h2 : ¬ IsF p n mod → ∀ m', Pre m m' → Q (I 1) m') : WV (DD 55 [.agg [I p, I n, vm]] m) Q := by
  rw [e55]
  refine WV_fin ?_
  simp [r55_0, r55_1, r55_2, r55_3, c55, hv.cell]
  refine WR_bnd (shape_wv (hv.pre (List.prefix_append _ _)) fun b m1 hb hp1 => ?_)
  have hp1' : Pre m m1 := (List.prefix_append _ _).trans hp1
  cases b with
  | false =>
    simp
    refine h2 ?_ _ hp1'
    rintro ⟨f, hf, rfl, rfl, rfl⟩
    have := hb.2 ⟨f.n, rfl, hf.pr, hf.sh⟩
    cases this
  | true =>
    obtain ⟨k, rfl, hpr, hS⟩ := hb.1 rfl
    have hord := Shape.ord ⟨k, rfl, hpr, hS⟩
    simp only [Int.toNat_natCast] at hord
    have hbx := hp1.at (At.new1 m [I p, I k, vm] 2)
    have hla : la 3 m1 m.length 0 = some (.agg [I p, I k, vm]) := by rw [la, hbx]; simp
    have hl0 : lc m1 m.length 0 = some (I p) := by rw [lc, hbx]; simp
    have hl1 : lc m1 m.length 1 = some (I k) := by rw [lc, hbx]; simp
    simp [hla, hl0, hl1]
    refine WR_bnd (order_wv ?_)
    have hq0 := pow_bd hS.hp k
    simp [hord.1]
    refine WR_bnd (generator_wv (q := (p ^ k).toNat) (n := k) (mod := mod) hS (by omega) (hv.pre hp1') ?_ ?_ |> fun h => by
      rw [show (((p ^ k).toNat : Nat) : Int) = p ^ k by omega] at h; exact h)
    · intro x v m2 hg hp2 hi hn
      simp [eq_nil22 hi hn]
      exact h1 ⟨⟨p, k, mod, (p ^ k).toNat, x⟩, ⟨hpr, hS, by simp; omega, hg⟩, rfl, rfl, rfl⟩ _ (hp1'.trans hp2)
    · intro m2 hno hp2
      simp
      refine h2 ?_ _ (hp1'.trans hp2)
      rintro ⟨f, hf, rfl, h, rfl⟩
      obtain rfl : k = f.n := by omega
      have := hf.gen
      have e : f.q = (f.p ^ f.n).toNat := by have := hf.q; omega
      rw [e] at this
      exact hno _ this
structure NwI (p : Int) (n q : Nat) (mod : List Int) (x : Int) (v vm : V) (M : Mem) (c : Nat) (e : Env) (m' : Mem) : Prop where
  d : ∃ (i : Nat) (log : List Int), e 6 = .ptr (M.length + 1) 0 ∧ e 37 = v ∧ e 38 = I (q - 1 : Nat) ∧ e 39 = I i ∧ i ≤ q - 1 ∧ q - 1 - i = c ∧ log.length = q ∧ (∀ j, j < i → log.getD (pwr p n mod x j).toNat 0 = j) ∧
    m' = M ++ [⟨log.map I, 2⟩, ⟨[I p, I n, vm, I q, v, .sl M.length 0 q q 1 true], 2⟩]
theorem build24 {a b c : V} (ha : a.isCell = true) (hb : b.isCell = true) (hc : c.isCell = true) : opBuild T 24 [(0, a), (1, b), (2, c)] = some (.agg [a, b, c]) := by
  have h : ∀ v : V, v.isCell = true → v.cells = [v] := fun v hv => by cases v <;> simp [V.cells, V.isCell] at hv ⊢
  simp [opBuild, T24, T3, T22, placeOf, fillA, h _ ha, h _ hb, h _ hc, ha, hb, hc]
theorem build107 {a b c d e f : V} (ha : a.isCell = true) (hb : b.isCell = true) (hc : c.isCell = true) (hd : d.isCell = true) (he : e.isCell = true) (hf : f.isCell = true) : opBuild T 107 [(0, .agg [a, b, c]), (1, d), (2, e), (3, f)] = some (.agg [a, b, c, d, e, f]) := by
  have h : ∀ v : V, v.isCell = true → v.cells = [v] := fun v hv => by cases v <;> simp [V.cells, V.isCell] at hv ⊢
  have h0 : (V.agg [a, b, c]).cells = [a, b, c] := rfl
  simp [opBuild, T107, T24, T3, T22, placeOf, fillA, put, h0, h _ hd, h _ he, h _ hf, ha, hb, hc, hd, he, hf]
theorem fieldNew_wv {p n : Int} {mod : List Int} {vm : V} {m : Mem} {Q : V → Mem → Prop} (hv : Ints m vm mod) (h1 : ∀ f v m', f.Ok → p = f.p → n = f.n → mod = f.mod → Pre m m' → GFAt m' v f → Q (.tup [v, I 0]) m')
    (h2 : ¬ IsF p n mod → ∀ m', Pre m m' → Q (.tup [.nilp, I 1]) m') : WV (DD 45 [.agg [I p, I n, vm]] m) Q := by
  rw [e45]
  refine WV_fin ?_
  simp [r45_0, r45_1, r45_2, r45_3, r45_4, r45_5, r45_6, r45_7, r45_8, r45_9, r45_10, r45_11, r45_12, r45_14, c45, hv.cell, packV]
  refine WR_bnd (shape_wv (hv.pre (List.prefix_append _ _)) fun b m1 hb hp1 => ?_)
  have hp1' : Pre m m1 := (List.prefix_append _ _).trans hp1
  cases b with
  | false =>
    simp
    refine h2 ?_ _ hp1'
    rintro ⟨f, hf, rfl, rfl, rfl⟩
    have := hb.2 ⟨f.n, rfl, hf.pr, hf.sh⟩
    cases this
  | true =>
    obtain ⟨k, rfl, hpr, hS⟩ := hb.1 rfl
    have hord := Shape.ord ⟨k, rfl, hpr, hS⟩
    simp only [Int.toNat_natCast] at hord
    have hbx := hp1.at (At.new1 m [I p, I k, vm] 2)
    have hla : la 3 m1 m.length 0 = some (.agg [I p, I k, vm]) := by rw [la, hbx]; simp
    have hl0 : lc m1 m.length 0 = some (I p) := by rw [lc, hbx]; simp
    have hl1 : lc m1 m.length 1 = some (I k) := by rw [lc, hbx]; simp
    simp [hl0, hl1]
    refine WR_bnd (order_wv ?_)
    have hq0 := pow_bd hS.hp k
    have hq1 := hS.hq
    have hmodl : mod.length ≤ 8 := by have := hS.hn; rcases hS.hm with ⟨_, rfl⟩ | ⟨_, h⟩ <;> simp <;> omega
    simp [hord.1, hla]
    refine WR_bnd (generator_wv (q := (p ^ k).toNat) (n := k) (mod := mod) hS (by omega) (hv.pre hp1') ?_ ?_ |> fun h => by
      rw [show (((p ^ k).toNat : Nat) : Int) = p ^ k by omega] at h; exact h)
    · intro x v m2 hg hp2 hi hn
      have hbx2 := hp2.at hbx
      have hp12 : Pre m m2 := hp1'.trans hp2
      obtain ⟨v', m3, a1, a2, a3, a4, a5⟩ := append_lit (hv.pre hp12) (by omega)
      have hl0 : lc m2 m.length 0 = some (I p) := by rw [lc, hbx2]; simp
      have hl1 : lc m2 m.length 1 = some (I k) := by rw [lc, hbx2]; simp
      have hl2 : lc (m2 ++ [⟨[], 2⟩]) m.length 2 = some vm := by rw [lc, At.app (l := [I p, I k, vm]) (st := 2) hbx2]; simp
      have hbd : opBuild T 24 [(0, I p), (1, I k), (2, v')] = some (.agg [I p, I k, v']) := build24 rfl rfl a2.ints.cell
      have hmk := mk22 (l := p ^ k) (c := p ^ k) (by omega) (by omega) (by omega) m3
      have hbd2 : opBuild T 107 [(0, .agg [I p, I k, v']), (1, I (p ^ k)), (2, v), (3, .sl m3.length 0 (p ^ k).toNat (p ^ k).toNat 1 true)] = some (.agg [I p, I k, v', I (p ^ k), v, .sl m3.length 0 (p ^ k).toNat (p ^ k).toNat 1 true]) := build107 rfl rfl a2.ints.cell rfl hi.cell rfl
      have hlen := (hi.pre (a3.trans (List.prefix_append m3 [⟨(List.replicate (p ^ k).toNat 0).map I, 2⟩, ⟨[I p, I k, v', I (p ^ k), v, .sl m3.length 0 (p ^ k).toNat (p ^ k).toNat 1 true], 2⟩]))).len
      simp at hlen
      simp [eq_nil22 hi hn, hl0, hl1, hl2, a1, chkd_of a4, hbd, hmk, hbd2, a2.ints.cell, hi.cell, hlen]
      generalize hq : (p ^ k).toNat = q at *
      have hqe : p ^ k = (q : Int) := by omega
      refine W_loop (NwI p k q mod x v v' m3) ?_ (q - 1) _ _ ⟨⟨0, List.replicate q 0, by simp, by simp, by simp, by simp, by omega, by omega, by simp, fun j hj => by omega, by simp [hqe]⟩⟩
      rintro c e m' ⟨⟨i, log, e6, e37, e38, e39, hi2, hc, hll, hlog, rfl⟩⟩
      have hpb : ∀ i, 0 ≤ pwr p k mod x i ∧ pwr p k mod x i < q := fun i => by have := pwr_bd hS (x := x) (by have := hg.x1; omega) (by have := hg.xq; omega) i; omega
      by_cases hlt : i < q - 1
      · have hpre : Pre m2 (m3 ++ [⟨log.map I, 2⟩, ⟨[I p, I k, v', I q, v, .sl m3.length 0 q q 1 true], 2⟩]) := a3.trans (List.prefix_append _ _)
        obtain ⟨b, o, b1, b2⟩ := (hi.pre hpre).at (ix := i) (by omega) (by simp; omega)
        rw [Int.toNat_natCast, pwL_get hlt] at b2
        have hix := ia22 (b := m3.length) (o := 0) (n := q) (c := q) (ex := true) (hpb i).1 (hpb i).2
        have hlp : (pwr p k mod x i).toNat < log.length := by have := hpb i; omega
        have w1 : IntKind.i64.wrap ((i : Int) + 1) = i + 1 := wrap64_in (by omega) (by omega)
        simp [l45_13, r45_0, r45_1, r45_2, r45_3, r45_4, r45_5, r45_6, r45_7, r45_8, r45_9, r45_10, r45_11, r45_12, r45_14, c45, e6, e37, e38, e39, hlt, b1, b2, hix, hlp, w1]
        refine ⟨q - 1 - (i + 1), by omega, ⟨i + 1, log.set (pwr p k mod x i).toNat i, by simp [e6], by simp [e37], by simp [e38], by simp, by omega, rfl, by simpa using hll, fun j hj => ?_, by simp [List.map_set]⟩⟩
        by_cases e : j = i
        · subst e; simp [hlp]
        · have hne := if h : j < i then hg.run.2.2 j i h hlt else (by omega : False).elim
          have := hpb j
          have := hpb i
          rw [List.getD_eq_getElem?_getD, List.getElem?_set_ne (by omega), ← List.getD_eq_getElem?_getD]
          exact hlog j (by omega)
      · simp [l45_13, r45_0, r45_1, r45_2, r45_3, r45_4, r45_5, r45_6, r45_7, r45_8, r45_9, r45_10, r45_11, r45_12, r45_14, c45, e6, e37, e38, e39, hlt]
        have hOk : (⟨p, k, mod, q, x⟩ : Fd).Ok := ⟨hpr, hS, by simp; omega, hg⟩
        refine h1 ⟨p, k, mod, q, x⟩ _ _ hOk rfl rfl rfl (hp12.trans (a3.trans (List.prefix_append _ _))) ⟨hOk, m3.length + 1, v', v, .sl m3.length 0 q q 1 true, 2, log, rfl, by simp, by omega, a2.ints.keep (Keep.app _ _), hi.pre (a3.trans (List.prefix_append _ _)), ?_, hll, fun j hj => hlog j (by simp at hj; omega)⟩
        have := At.ints (m := m3 ++ [⟨log.map I, 2⟩, ⟨[I p, I k, v', I q, v, .sl m3.length 0 q q 1 true], 2⟩]) (b := m3.length) (l := log) (st := 2) (by simp [At]) (by omega) true
        rwa [hll] at this
    · intro m2 hno hp2
      simp
      refine h2 ?_ _ (hp1'.trans hp2)
      rintro ⟨f, hf, rfl, h, rfl⟩
      obtain rfl : k = f.n := by omega
      have := hf.gen
      have e : f.q = (f.p ^ f.n).toNat := by have := hf.q; omega
      rw [e] at this
      exact hno _ this
end Go.Proofs.YtefjnnghfloddaaGreat.Abs

/- Specifications: the arithmetic of a field. -/
namespace Go.Proofs.YtefjnnghfloddaaGreat.Abs
set_option linter.unusedVariables false
set_option linter.unusedSimpArgs false
def Fd.F (f : Fd) : Ff := ⟨f.p, f.n, f.mod⟩
theorem Fd.Ok.pws {f : Fd} (h : f.Ok) : Pws f.p f.n f.mod f.q f.pw := h.gen.pws h.sh.hp (by have := h.sh.hn; omega) h.q
theorem Fd.Ok.F {f : Fd} (h : f.Ok) : f.F.Ok := ⟨h.sh.hp, by have := h.sh.hn; exact this.1, fun x hx h0 => h.pws.inv_ hx h0⟩
theorem Fd.Ok.E {f : Fd} (h : f.Ok) (x : Int) : f.F.E x ↔ 0 ≤ x ∧ x < f.q := by rw [h.q]; exact Iff.rfl
theorem Fd.Ok.qb {f : Fd} (h : f.Ok) : 2 ≤ f.q ∧ f.q ≤ 256 := by
  have := h.pws.q2
  have := h.q
  have := h.sh.hq
  omega
structure Cells (m : Mem) (b : Nat) (f : Fd) where
  vm : V
  ve : V
  vl : V
  st : Nat
  log : List Int
structure Cells.Ok {m : Mem} {b : Nat} {f : Fd} (c : Cells m b f) : Prop where
  at_ : m[b]? = some ⟨[I f.p, I f.n, c.vm, I f.q, c.ve, c.vl], c.st⟩
  st0 : c.st ≠ 0
  vm_ : Ints m c.vm f.mod
  ve_ : Ints m c.ve (pwL f.p f.n f.mod f.x (f.q - 1))
  vl_ : Ints m c.vl c.log
  ll : c.log.length = f.q
  lg : ∀ i, i < f.q - 1 → c.log.getD (f.pw i).toNat 0 = i
theorem GFAt.cells {m : Mem} {v : V} {f : Fd} (h : GFAt m v f) : f.Ok ∧ ∃ b, v = .ptr b 0 ∧ ∃ c : Cells m b f, c.Ok := by
  obtain ⟨ok, b, vm, ve, vl, st, log, h1, h2, h3, h4, h5, h6, h7, h8⟩ := h
  exact ⟨ok, b, h1, ⟨vm, ve, vl, st, log⟩, h2, h3, h4, h5, h6, h7, h8⟩
section
variable {m : Mem} {b : Nat} {f : Fd} {c : Cells m b f} (h : c.Ok)
include h
theorem Cells.Ok.l0 : lc m b 0 = some (I f.p) := by rw [lc_at h.at_ h.st0]; rfl
theorem Cells.Ok.l1 : lc m b 1 = some (I f.n) := by rw [lc_at h.at_ h.st0]; rfl
theorem Cells.Ok.l3 : lc m b 3 = some (I f.q) := by rw [lc_at h.at_ h.st0]; rfl
theorem Cells.Ok.l4 : lc m b 4 = some c.ve := by rw [lc_at h.at_ h.st0]; rfl
theorem Cells.Ok.l5 : lc m b 5 = some c.vl := by rw [lc_at h.at_ h.st0]; rfl
theorem Cells.Ok.log (hf : f.Ok) {x : Int} (hx : f.F.E x) (h0 : x ≠ 0) : ∃ i, i < f.q - 1 ∧ f.pw i = x ∧ ∃ b o, opIndexAddr T 22 c.vl (I x) = some (.ptr b o) ∧ lc m b o = some (I (i : Nat)) := by
  obtain ⟨i, hi, he⟩ := hf.pws.all hx h0
  have hx' := (hf.E x).1 hx
  obtain ⟨b, o, h1, h2⟩ := h.vl_.at (ix := x) hx'.1 (by rw [h.ll]; exact hx'.2)
  refine ⟨i, hi, he, b, o, h1, ?_⟩
  rw [h2, ← he, h.lg i hi]
theorem Cells.Ok.exp (hf : f.Ok) {k : Int} (h0 : 0 ≤ k) (h1 : k < f.q - 1) : ∃ b o, opIndexAddr T 22 c.ve (I k) = some (.ptr b o) ∧ lc m b o = some (I (f.pw k.toNat)) := by
  obtain ⟨b, o, h1, h2⟩ := h.ve_.at (ix := k) h0 (by simp; omega)
  refine ⟨b, o, h1, ?_⟩
  rw [h2, pwL_get (by omega)]; rfl
end
theorem is_wv {v : V} {f : Fd} {x : Int} {m : Mem} {Q : V → Mem → Prop} (hg : GFAt m v f) (hQ : ∀ b, (b = true ↔ f.F.E x) → Q (.bool b) m) : WV (DD 48 [v, I x] m) Q := by
  obtain ⟨hf, b, rfl, c, hc⟩ := hg.cells
  rw [e48]
  refine WV_fin ?_
  have hE := hf.E x
  by_cases h0 : 0 ≤ x
  · simp [r48_0, r48_1, c48, h0, hc.l3]
    exact hQ _ (by rw [hE]; simp [h0])
  · have : ¬ (x ≥ 0) := h0
    simp [r48_0, r48_1, c48, this]
    exact hQ _ (by rw [hE]; simp [h0])
theorem in_wv {v : V} {f : Fd} {x : Int} {m : Mem} {Q : V → Mem → Prop} (hg : GFAt m v f) (hx : f.F.E x) (hQ : Q (I x) m) : WV (DD 181 [v, I x] m) Q := by
  rw [e181]
  refine WV_fin ?_
  simp [r181_0, r181_1, r181_2, r181_3, c181]
  refine WR_bnd (is_wv hg fun b hb => ?_)
  rw [hb.2 hx]
  simpa using hQ
theorem mul_wv {v : V} {f : Fd} {x y : Int} {m : Mem} {Q : V → Mem → Prop} (hg : GFAt m v f) (hx : f.F.E x) (hy : f.F.E y) (hQ : Q (I (f.F.mul x y)) m) : WV (DD 166 [v, I x, I y] m) Q := by
  rw [e166]
  refine WV_fin ?_
  simp [r166_0, r166_1, r166_2, r166_3, r166_4, c166]
  refine WR_bnd (in_wv hg hx ?_)
  refine WR_bnd (in_wv hg hy ?_)
  simp
  obtain ⟨hf, b, rfl, c, hc⟩ := hg.cells
  by_cases h0 : x = 0
  · subst h0
    simp
    rwa [hf.F.mul0] at hQ
  by_cases h1 : y = 0
  · subst h1
    simp [h0]
    rwa [hf.F.mul0r] at hQ
  obtain ⟨i, hi, hpi, b1, o1, a1, a2⟩ := hc.log hf hx h0
  obtain ⟨j, hj, hpj, b2, o2, a3, a4⟩ := hc.log hf hy h1
  have hqb := hf.qb
  have w1 : IntKind.i64.wrap ((i : Int) + j) = (i + j : Nat) := by rw [wrap64_in (by omega) (by omega)]; omega
  have w2 : IntKind.i64.wrap ((f.q : Int) - 1) = (f.q - 1 : Nat) := by rw [wrap64_in (by omega) (by omega)]; omega
  have hr : opBin T .rem 3 (I (i + j : Nat)) (I (f.q - 1 : Nat)) = some (I ((i + j) % (f.q - 1) : Nat)) := by
    rw [bin_rem _ _ _ _ (by omega), tmod_pos (by omega)]; simp
  have hlt := Nat.mod_lt (i + j) (show f.q - 1 > 0 by omega)
  obtain ⟨b3, o3, a5, a6⟩ := hc.exp hf (k := ((i + j) % (f.q - 1) : Nat)) (by omega) (by omega)
  rw [Int.toNat_natCast, hf.pws.mod_, ← hf.pws.add, hpi, hpj] at a6
  simp [h0, h1, hc.l3, hc.l4, hc.l5, a1, a2, a3, a4, -Int.natCast_add, -Int.natCast_emod, w1, w2, hr, a5, a6]
  exact hQ
theorem inv_wv {v : V} {f : Fd} {x : Int} {m : Mem} {Q : V → Mem → Prop} (hg : GFAt m v f) (hx : f.F.E x) (h1 : x = 0 → Q (.tup [I 0, I 7]) m) (h2 : x ≠ 0 → Q (.tup [I (f.F.inv x), I 0]) m) : WV (DD 167 [v, I x] m) Q := by
  rw [e167]
  refine WV_fin ?_
  simp [r167_0, r167_1, r167_2, r167_3, r167_4, c167]
  refine WR_bnd (in_wv hg hx ?_)
  simp
  obtain ⟨hf, b, rfl, c, hc⟩ := hg.cells
  by_cases h0 : x = 0
  · simp [h0, packV]
    exact h1 h0
  obtain ⟨i, hi, hpi, b1, o1, a1, a2⟩ := hc.log hf hx h0
  have hqb := hf.qb
  have w2 : IntKind.i64.wrap ((f.q : Int) - 1) = (f.q - 1 : Nat) := by rw [wrap64_in (by omega) (by omega)]; omega
  have w1 : IntKind.i64.wrap (((f.q - 1 : Nat) : Int) - i) = (f.q - 1 - i : Nat) := by rw [wrap64_in (by omega) (by omega)]; omega
  have hr : opBin T .rem 3 (I (f.q - 1 - i : Nat)) (I (f.q - 1 : Nat)) = some (I ((f.q - 1 - i) % (f.q - 1) : Nat)) := by
    rw [bin_rem _ _ _ _ (by omega), tmod_pos (by omega)]; simp
  have hlt := Nat.mod_lt (f.q - 1 - i) (show f.q - 1 > 0 by omega)
  obtain ⟨b3, o3, a5, a6⟩ := hc.exp hf (k := ((f.q - 1 - i) % (f.q - 1) : Nat)) (by omega) (by omega)
  rw [Int.toNat_natCast] at a6
  have hinv : f.F.inv x = f.pw ((f.q - 1 - i) % (f.q - 1)) := by
    rw [← hpi]
    exact invM_eq hf.pws.hp hf.pws.hn (hf.pws.el _) (hf.pws.inv hi)
  rw [← hinv] at a6
  simp [h0, hc.l3, hc.l4, hc.l5, a1, a2, -Int.natCast_add, -Int.natCast_emod, w1, w2, hr, a5, a6, packV]
  exact h2 h0
structure AdI (f : Fd) (b : Nat) (S : Int) (m : Mem) (c : Nat) (e : Env) (m' : Mem) : Prop where
  d : ∃ (k : Nat) (x y s pl : Int), e 0 = .ptr b 0 ∧ e 1 = I x ∧ e 2 = I y ∧ e 7 = I s ∧ e 8 = I pl ∧ k + c = f.n ∧ El f.p c x ∧ El f.p c y ∧ pl = f.p ^ k ∧ 0 ≤ s ∧ s + pl * addM f.p c x y = S
  m : m' = m
theorem add_wv {v : V} {f : Fd} {x y : Int} {m : Mem} {Q : V → Mem → Prop} (hg : GFAt m v f) (hx : f.F.E x) (hy : f.F.E y) (hQ : Q (I (f.F.add x y)) m) : WV (DD 180 [v, I x, I y] m) Q := by
  rw [e180]
  refine WV_fin ?_
  simp [r180_0, r180_1, r180_2, r180_3, r180_4, r180_5, r180_6, r180_7, r180_8, r180_9, r180_11, c180]
  refine WR_bnd (in_wv hg hx ?_)
  refine WR_bnd (in_wv hg hy ?_)
  simp
  obtain ⟨hf, b, rfl, c, hc⟩ := hg.cells
  have hqb := hf.qb
  have hx' := (hf.E x).1 hx
  have hy' := (hf.E y).1 hy
  have hsh := hf.sh
  have hp2 := hsh.hp
  by_cases h2 : f.p = 2
  · have key : (IntKind.i64.wrap (BitVec.ofInt 64 x ^^^ BitVec.ofInt 64 y).toNat) = f.F.add x y := by
      obtain ⟨x, rfl⟩ : ∃ k : Nat, x = k := ⟨x.toNat, by omega⟩
      obtain ⟨y, rfl⟩ : ∃ k : Nat, y = k := ⟨y.toNat, by omega⟩
      have hq : f.q = 2 ^ f.n := by have := hf.q; rw [h2] at this; exact_mod_cast this
      have h3 := xor_add f.n x y (by omega) (by omega)
      have h4 : (f.F.add x y) = addM 2 f.n x y := by rw [Ff.add, show f.F.p = f.p from rfl, h2]; rfl
      have hb : x ^^^ y < 256 := Nat.xor_lt_two_pow (n := 8) (by omega) (by omega)
      rw [h4, ← h3, BitVec.toNat_xor]
      have e1 : (BitVec.ofInt 64 (x : Int)).toNat = x := by simp [BitVec.toNat_ofInt]; omega
      have e2 : (BitVec.ofInt 64 (y : Int)).toNat = y := by simp [BitVec.toNat_ofInt]; omega
      rw [e1, e2, wrap64_in (by omega) (by omega)]
    have bx : opBin T .xor 3 (I x) (I y) = some (I (f.F.add x y)) := by rw [bin_xor, key]
    simp [hc.l0, h2, bx, -bin_xor]
    exact hQ
  simp [hc.l0, h2]
  refine W_loop (AdI f b (f.F.add x y) m) ?_ f.n _ _ ⟨⟨0, x, y, 0, 1, by simp, by simp, by simp, by simp, by simp, by omega, hx, hy, by simp, by omega, by simp [Ff.add, Fd.F]⟩, rfl⟩
  rintro c' e m' ⟨⟨k, x', y', s, pl, e0, e1, e2, e7, e8, hk, hx2, hy2, hpl, hs, hS⟩, rfl⟩
  by_cases hz : x' = 0 ∧ y' = 0
  · obtain ⟨rfl, rfl⟩ := hz
    rw [addM_00 (by omega)] at hS
    have : s = f.F.add x y := by omega
    simp [l180_10, r180_0, r180_1, r180_2, r180_3, r180_4, r180_5, r180_6, r180_7, r180_8, r180_9, r180_11, c180, e0, e1, e2, e7, e8]
    rw [this]; exact hQ
  · have hpos : x' > 0 ∨ y' > 0 := by have := hx2.1; have := hy2.1; omega
    cases c' with
    | zero => exact (hz ⟨El_zero hx2, El_zero hy2⟩).elim
    | succ c' =>
    have hb := addM_bd (p := f.p) (by omega) f.n x y
    have hq := hf.q
    have hb1 := addM_bd (p := f.p) (by omega) c' (x' / f.p) (y' / f.p)
    have hplp : 0 < pl := hpl ▸ Int.pow_pos (by omega)
    have hple : pl * f.p ≤ f.q := by
      rw [hpl, hq, ← Int.pow_succ]
      exact pow_mono hp2 (by omega)
    rw [addM_succ] at hS
    have hSb : s + pl * ((x' % f.p + y' % f.p) % f.p + f.p * addM f.p c' (x' / f.p) (y' / f.p)) < f.q := by rw [hS, hq]; exact hb.2
    have d0 := Int.emod_nonneg (x' % f.p + y' % f.p) (show f.p ≠ 0 by omega)
    have d1 := Int.emod_lt_of_pos (x' % f.p + y' % f.p) (show 0 < f.p by omega)
    have r0 : 0 ≤ pl * (f.p * addM f.p c' (x' / f.p) (y' / f.p)) := Int.mul_nonneg (by omega) (Int.mul_nonneg (by omega) hb1.1)
    have r1 : 0 ≤ pl * ((x' % f.p + y' % f.p) % f.p) := Int.mul_nonneg (by omega) d0
    rw [Int.mul_add] at hSb hS
    have xm := Int.emod_lt_of_pos x' (show 0 < f.p by omega)
    have ym := Int.emod_lt_of_pos y' (show 0 < f.p by omega)
    have xm0 := Int.emod_nonneg x' (show f.p ≠ 0 by omega)
    have ym0 := Int.emod_nonneg y' (show f.p ≠ 0 by omega)
    have hpq : f.p ≤ 256 := by have := hsh.p2; omega
    have w1 : IntKind.i64.wrap (x' % f.p + y' % f.p) = x' % f.p + y' % f.p := wrap64_in (by omega) (by omega)
    have w2 : IntKind.i64.wrap ((x' % f.p + y' % f.p) % f.p * pl) = pl * ((x' % f.p + y' % f.p) % f.p) := by
      rw [Int.mul_comm]; exact wrap64_in (by omega) (by omega)
    have w3 : IntKind.i64.wrap (s + pl * ((x' % f.p + y' % f.p) % f.p)) = s + pl * ((x' % f.p + y' % f.p) % f.p) := wrap64_in (by omega) (by omega)
    have w4 : IntKind.i64.wrap (pl * f.p) = pl * f.p := wrap64_in (by have := Int.mul_nonneg (show 0 ≤ pl by omega) (show 0 ≤ f.p by omega); omega) (by omega)
    have hxb := hx2.2
    have hyb := hy2.2
    have hpc : f.p ^ (c' + 1) ≤ f.q := by rw [hq]; exact pow_mono hp2 (by omega)
    have x0 := hx2.1
    have y0 := hy2.1
    have dx0 : 0 ≤ x' / f.p := Int.ediv_nonneg x0 (by omega)
    have dx1 : x' / f.p ≤ x' := Int.ediv_le_self _ x0
    have dy0 : 0 ≤ y' / f.p := Int.ediv_nonneg y0 (by omega)
    have dy1 : y' / f.p ≤ y' := Int.ediv_le_self _ y0
    have w5 : IntKind.i64.wrap (x' / f.p) = x' / f.p := wrap64_in (by omega) (by omega)
    have w6 : IntKind.i64.wrap (y' / f.p) = y' / f.p := wrap64_in (by omega) (by omega)
    have hpn : f.p ≠ 0 := by omega
    have b1 : opBin T .rem 3 (I x') (I f.p) = some (I (x' % f.p)) := by rw [bin_rem _ _ _ _ hpn, tmod_pos x0]
    have b2 : opBin T .rem 3 (I y') (I f.p) = some (I (y' % f.p)) := by rw [bin_rem _ _ _ _ hpn, tmod_pos y0]
    have b3 : opBin T .rem 3 (I (x' % f.p + y' % f.p)) (I f.p) = some (I ((x' % f.p + y' % f.p) % f.p)) := by rw [bin_rem _ _ _ _ hpn, tmod_pos (by omega)]
    have b4 : opBin T .quo 3 (I x') (I f.p) = some (I (x' / f.p)) := by rw [bin_quo _ _ _ _ hpn, tdiv_pos x0, w5]
    have b5 : opBin T .quo 3 (I y') (I f.p) = some (I (y' / f.p)) := by rw [bin_quo _ _ _ _ hpn, tdiv_pos y0, w6]
    by_cases hx0 : x' > 0
    · simp [l180_10, r180_0, r180_1, r180_2, r180_3, r180_4, r180_5, r180_6, r180_7, r180_8, r180_9, r180_11, c180, e0, e1, e2, e7, e8, hx0, hc.l0, b1, b2, b3, b4, b5, w1, w2, w3, w4, -Int.add_emod_emod, -Int.emod_add_emod]
      refine ⟨c', by omega, ⟨k + 1, x' / f.p, y' / f.p, s + pl * ((x' % f.p + y' % f.p) % f.p), pl * f.p, by simp [e0], by simp, by simp, by simp, by simp, by omega, El_div (by omega) hx2, El_div (by omega) hy2, by rw [hpl, Int.pow_succ], by omega, by rw [Int.mul_assoc]; omega⟩, rfl⟩
    · have hy0 : y' > 0 := by omega
      simp [l180_10, r180_0, r180_1, r180_2, r180_3, r180_4, r180_5, r180_6, r180_7, r180_8, r180_9, r180_11, c180, e0, e1, e2, e7, e8, hx0, hy0, hc.l0, b1, b2, b3, b4, b5, w1, w2, w3, w4, -Int.add_emod_emod, -Int.emod_add_emod]
      refine ⟨c', by omega, ⟨k + 1, x' / f.p, y' / f.p, s + pl * ((x' % f.p + y' % f.p) % f.p), pl * f.p, by simp [e0], by simp, by simp, by simp, by simp, by omega, El_div (by omega) hx2, El_div (by omega) hy2, by rw [hpl, Int.pow_succ], by omega, by rw [Int.mul_assoc]; omega⟩, rfl⟩
structure NgI (f : Fd) (b : Nat) (S : Int) (m : Mem) (c : Nat) (e : Env) (m' : Mem) : Prop where
  d : ∃ (k : Nat) (x s pl : Int), e 0 = .ptr b 0 ∧ e 1 = I x ∧ e 5 = I s ∧ e 6 = I pl ∧ k + c = f.n ∧ El f.p c x ∧ pl = f.p ^ k ∧ 0 ≤ s ∧ s + pl * negM f.p c x = S
  m : m' = m
theorem neg_wv {v : V} {f : Fd} {x : Int} {m : Mem} {Q : V → Mem → Prop} (hg : GFAt m v f) (hx : f.F.E x) (hQ : Q (I (f.F.neg x)) m) : WV (DD 165 [v, I x] m) Q := by
  rw [e165]
  refine WV_fin ?_
  simp [r165_0, r165_1, r165_2, r165_3, r165_4, r165_5, r165_6, r165_8, c165]
  refine WR_bnd (in_wv hg hx ?_)
  simp
  obtain ⟨hf, b, rfl, c, hc⟩ := hg.cells
  have hqb := hf.qb
  have hx' := (hf.E x).1 hx
  have hsh := hf.sh
  have hp2 := hsh.hp
  refine W_loop (NgI f b (f.F.neg x) m) ?_ f.n _ _ ⟨⟨0, x, 0, 1, by simp, by simp, by simp, by simp, by omega, hx, by simp, by omega, by simp [Ff.neg, Fd.F]⟩, rfl⟩
  rintro c' e m' ⟨⟨k, x', s, pl, e0, e1, e5, e6, hk, hx2, hpl, hs, hS⟩, rfl⟩
  by_cases hz : x' = 0
  · subst hz
    rw [negM_0 (by omega)] at hS
    have : s = f.F.neg x := by omega
    simp [l165_7, r165_0, r165_1, r165_2, r165_3, r165_4, r165_5, r165_6, r165_8, c165, e0, e1, e5, e6]
    rw [this]; exact hQ
  · cases c' with
    | zero => exact (hz (El_zero hx2)).elim
    | succ c' =>
    have x0 := hx2.1
    have hx0 : x' > 0 := by omega
    have hb := negM_bd (p := f.p) (by omega) f.n x
    have hq := hf.q
    have hb1 := negM_bd (p := f.p) (by omega) c' (x' / f.p)
    have hplp : 0 < pl := hpl ▸ Int.pow_pos (by omega)
    have hple : pl * f.p ≤ f.q := by
      rw [hpl, hq, ← Int.pow_succ]
      exact pow_mono hp2 (by omega)
    rw [negM_succ] at hS
    have hSb : s + pl * ((f.p - x' % f.p) % f.p + f.p * negM f.p c' (x' / f.p)) < f.q := by rw [hS, hq]; exact hb.2
    have d0 := Int.emod_nonneg (f.p - x' % f.p) (show f.p ≠ 0 by omega)
    have r0 : 0 ≤ pl * (f.p * negM f.p c' (x' / f.p)) := Int.mul_nonneg (by omega) (Int.mul_nonneg (by omega) hb1.1)
    have r1 : 0 ≤ pl * ((f.p - x' % f.p) % f.p) := Int.mul_nonneg (by omega) d0
    rw [Int.mul_add] at hSb hS
    have xm := Int.emod_lt_of_pos x' (show 0 < f.p by omega)
    have xm0 := Int.emod_nonneg x' (show f.p ≠ 0 by omega)
    have hpq : f.p ≤ 256 := by have := hsh.p2; omega
    have w1 : IntKind.i64.wrap (f.p - x' % f.p) = f.p - x' % f.p := wrap64_in (by omega) (by omega)
    have w2 : IntKind.i64.wrap ((f.p - x' % f.p) % f.p * pl) = pl * ((f.p - x' % f.p) % f.p) := by
      rw [Int.mul_comm]; exact wrap64_in (by omega) (by omega)
    have w3 : IntKind.i64.wrap (s + pl * ((f.p - x' % f.p) % f.p)) = s + pl * ((f.p - x' % f.p) % f.p) := wrap64_in (by omega) (by omega)
    have w4 : IntKind.i64.wrap (pl * f.p) = pl * f.p := wrap64_in (by have := Int.mul_nonneg (show 0 ≤ pl by omega) (show 0 ≤ f.p by omega); omega) (by omega)
    have hxb := hx2.2
    have hpc : f.p ^ (c' + 1) ≤ f.q := by rw [hq]; exact pow_mono hp2 (by omega)
    have dx0 : 0 ≤ x' / f.p := Int.ediv_nonneg x0 (by omega)
    have dx1 : x' / f.p ≤ x' := Int.ediv_le_self _ x0
    have w5 : IntKind.i64.wrap (x' / f.p) = x' / f.p := wrap64_in (by omega) (by omega)
    have hpn : f.p ≠ 0 := by omega
    have b1 : opBin T .rem 3 (I x') (I f.p) = some (I (x' % f.p)) := by rw [bin_rem _ _ _ _ hpn, tmod_pos x0]
    have b3 : opBin T .rem 3 (I (f.p - x' % f.p)) (I f.p) = some (I ((f.p - x' % f.p) % f.p)) := by rw [bin_rem _ _ _ _ hpn, tmod_pos (by omega)]
    have b4 : opBin T .quo 3 (I x') (I f.p) = some (I (x' / f.p)) := by rw [bin_quo _ _ _ _ hpn, tdiv_pos x0, w5]
    generalize (f.p - x' % f.p) % f.p = t at *
    simp [l165_7, r165_0, r165_1, r165_2, r165_3, r165_4, r165_5, r165_6, r165_8, c165, e0, e1, e5, e6, hx0, hc.l0, b1, b3, b4, w1, w2, w3, w4, -Int.sub_emod_emod, -Int.emod_sub_emod]
    refine ⟨c', by omega, ⟨k + 1, x' / f.p, s + pl * t, pl * f.p, by simp [e0], by simp, by simp, by simp, by omega, El_div (by omega) hx2, by rw [hpl, Int.pow_succ], by omega, by rw [Int.mul_assoc]; omega⟩, rfl⟩
theorem sub_wv {v : V} {f : Fd} {x y : Int} {m : Mem} {Q : V → Mem → Prop} (hg : GFAt m v f) (hx : f.F.E x) (hy : f.F.E y) (hQ : Q (I (f.F.sub x y)) m) : WV (DD 188 [v, I x, I y] m) Q := by
  rw [e188]
  refine WV_fin ?_
  simp [r188_0, r188_1, c188]
  refine WR_bnd (neg_wv hg hy ?_)
  refine WR_bnd (add_wv hg hx hg.ok.F.negE ?_)
  simp
  exact hQ
structure ScI (f : Fd) (v vl : V) (a : Int) (l : List Int) (m : Mem) (c : Nat) (e : Env) (m' : Mem) : Prop where
  d : ∃ i : Nat, e 0 = v ∧ e 1 = I a ∧ e 7 = .sl m.length 0 l.length l.length 1 true ∧ e 13 = vl ∧ e 14 = I l.length ∧ e 15 = I i ∧ i ≤ l.length ∧ l.length - i = c ∧ m' = m ++ [⟨((l.take i).map (f.F.mul a) ++ List.replicate (l.length - i) 0).map I, 2⟩]
theorem scale_wv {v vl : V} {f : Fd} {a : Int} {l : List Int} {m : Mem} {Q : V → Mem → Prop} (hg : GFAt m v f) (ha : f.F.E a) (hl : Ints m vl l) (hE : ∀ i, f.F.E (l.getD i 0)) (hlen : l.length ≤ 1000000)
    (hQ : Q (.sl m.length 0 l.length l.length 1 true) (m ++ [⟨(f.F.rowScale a l).map I, 2⟩])) : WV (DD 169 [v, I a, vl] m) Q := by
  rw [e169]
  refine WV_fin ?_
  simp [r169_0, r169_1, r169_2, r169_3, r169_4, r169_5, r169_6, r169_8, c169, hl.len, mk22 (l := l.length) (c := l.length) (by omega) (by omega) (by omega)]
  refine W_loop (ScI f v vl a l m) ?_ l.length _ _ ⟨⟨0, by simp, by simp, by simp, by simp, by simp, by simp, by omega, by omega, by simp⟩⟩
  rintro c e m' ⟨⟨i, e0, e1, e7, e13, e14, e15, hi, hc, rfl⟩⟩
  by_cases hlt : i < l.length
  · generalize hL : (l.take i).map (f.F.mul a) ++ List.replicate (l.length - i) 0 = L
    have hLl : L.length = l.length := by rw [← hL]; simp; omega
    obtain ⟨b, o, a1, a2⟩ := (hl.pre (List.prefix_append m [⟨L.map I, 2⟩])).at (ix := i) (by omega) (by omega)
    rw [Int.toNat_natCast] at a2
    have w1 : IntKind.i64.wrap ((i : Int) + 1) = i + 1 := wrap64_in (by omega) (by omega)
    have hix := ia22 (b := m.length) (o := 0) (n := l.length) (c := l.length) (ex := true) (ix := (i : Int)) (by omega) (by omega)
    simp only [Int.toNat_natCast, Nat.zero_add] at hix
    simp [l169_7, r169_0, r169_1, r169_2, r169_3, r169_4, r169_5, r169_6, r169_8, c169, e0, e1, e7, e13, e14, e15, hlt, a1, a2, -List.getD_eq_getElem?_getD]
    refine WR_bnd (mul_wv (hg.pre (List.prefix_append _ _)) ha (hE i) ?_)
    have hst := sc_ints (m := m ++ [⟨L.map I, 2⟩]) (b := m.length) (o := i) (x := f.F.mul a (l.getD i 0)) (At.new1 _ _ _) (by omega)
    simp [hix, hst, w1, -List.getD_eq_getElem?_getD, -sc_app0, e0, e1, e7, e13, e14, e15]
    refine ⟨l.length - (i + 1), by omega, ⟨i + 1, by simp [e0], by simp [e1], by simp [e7], by simp [e13], by simp [e14], by simp, by omega, rfl, ?_⟩⟩
    rw [← List.map_set, ← hL]
    congr 4
    apply List.ext_getElem
    · simp; omega
    intro j h1 h2
    rw [List.getElem_set]
    have hti : (List.map (f.F.mul a) (List.take i l)).length = i := by simp; omega
    have hti1 : (List.map (f.F.mul a) (List.take (i + 1) l)).length = i + 1 := by simp; omega
    by_cases e : i = j
    · subst e
      rw [if_pos rfl, List.getElem_append_left (by omega)]
      simp [hlt]
    · rw [if_neg e]
      by_cases h3 : j < i
      · rw [List.getElem_append_left (by omega), List.getElem_append_left (by omega)]
        simp
      · rw [List.getElem_append_right (by omega), List.getElem_append_right (by omega)]
        simp
  · have hil : i = l.length := by omega
    subst hil
    simp [l169_7, r169_0, r169_1, r169_2, r169_3, r169_4, r169_5, r169_6, r169_8, c169, e0, e1, e7, e13, e14, e15]
    simpa [Ff.rowScale] using hQ
end Go.Proofs.YtefjnnghfloddaaGreat.Abs

/- Specifications: the reference's field. -/
namespace Go.Proofs.YtefjnnghfloddaaGreat.Abs
set_option linter.unusedVariables false
set_option linter.unusedSimpArgs false
structure RoI (p n : Int) (vm : V) (m : Mem) (k : Nat) (e : Env) (m' : Mem) : Prop where
  d : ∃ i : Nat, e 1 = .ptr m.length 0 ∧ e 3 = I (p ^ i) ∧ e 4 = I i ∧ (i : Int) ≤ n ∧ p ^ i ≤ 256 ∧ n.toNat - i = k
  m : m' = m ++ [⟨[I p, I n, vm], 2⟩]
theorem rorder_wv {p n : Int} {vm : V} {m : Mem} {Q : V → Mem → Prop} (hv : vm.isCell = true) (hQ : Q (I (ordF p n)) (m ++ [⟨[I p, I n, vm], 2⟩])) : WV (DD 93 [.agg [I p, I n, vm]] m) Q := by
  rw [e93]
  refine WV_fin ?_
  by_cases h1 : p < 2
  · have : ordF p n = 0 := by unfold ordF; rw [if_neg (by omega)]
    simp [r93_0, r93_1, r93_2, r93_3, r93_4, r93_5, r93_6, r93_7, r93_8, r93_9, r93_11, c93, hv, h1]; rwa [this] at hQ
  by_cases h3 : n < 1
  · have : ordF p n = 0 := by unfold ordF; rw [if_neg (by omega)]
    simp [r93_0, r93_1, r93_2, r93_3, r93_4, r93_5, r93_6, r93_7, r93_8, r93_9, r93_11, c93, hv, h1, h3]; rwa [this] at hQ
  by_cases h4 : n > 8
  · have : ordF p n = 0 := by unfold ordF; rw [if_neg (by omega)]
    have h4' : 8 < n := h4
    simp [r93_0, r93_1, r93_2, r93_3, r93_4, r93_5, r93_6, r93_7, r93_8, r93_9, r93_11, c93, hv, h1, h3, h4']; rwa [this] at hQ
  have h4' : ¬ 8 < n := h4
  simp [r93_0, r93_1, r93_2, r93_3, r93_4, r93_5, r93_6, r93_7, r93_8, r93_9, r93_11, c93, hv, h1, h3, h4']
  refine W_loop (RoI p n vm m) ?_ n.toNat _ _ ⟨⟨0, by simp, by simp, by simp, by omega, by simp, by omega⟩, rfl⟩
  rintro k e m' ⟨⟨i, e1, e3, e4, hi, hq, hk⟩, rfl⟩
  have b0 := pow_bd (p := p) (by omega) i
  have w2 : IntKind.i64.wrap ((i : Int) + 1) = i + 1 := wrap64_in (by omega) (by omega)
  have d0 : 0 ≤ 256 / p := Int.ediv_nonneg (by omega) (by omega)
  have d1 : 256 / p ≤ 256 := Int.ediv_le_self _ (by omega)
  have bq : opBin T .quo 3 (I 256) (I p) = some (I (256 / p)) := by rw [bin_quo _ _ _ _ (by omega), tdiv_pos (by omega), wrap64_in (by omega) (by omega)]
  have hdiv : 256 / p < p ^ i ↔ 256 < p ^ i * p := Int.ediv_lt_iff_lt_mul (by omega)
  by_cases hl : (i : Int) < n
  · by_cases hb : 256 < p ^ i * p
    · have : ordF p n = 0 := by
        unfold ordF; rw [if_neg]
        rintro ⟨_, _, _, _, h⟩
        have := pow_mono (p := p) (by omega) (i := i + 1) (j := n.toNat) (by omega)
        rw [Int.pow_succ] at this
        omega
      rw [this] at hQ
      simp [l93_10, r93_0, r93_1, r93_2, r93_3, r93_4, r93_5, r93_6, r93_7, r93_8, r93_9, r93_11, c93, e1, e3, e4, hl, bq, hdiv.2 hb, hQ]
    · have hd' : ¬ 256 / p < p ^ i := fun h => hb (hdiv.1 h)
      have w1 : IntKind.i64.wrap (p ^ i * p) = p ^ i * p := wrap64_in (by have := Int.mul_nonneg (show 0 ≤ p ^ i by omega) (show 0 ≤ p by omega); omega) (by omega)
      simp [l93_10, r93_0, r93_1, r93_2, r93_3, r93_4, r93_5, r93_6, r93_7, r93_8, r93_9, r93_11, c93, e1, e3, e4, hl, w1, w2, bq, hd']
      exact ⟨n.toNat - (i + 1), by omega, ⟨i + 1, by simp [e1], by simp [Int.pow_succ], by simp, by omega, by rw [Int.pow_succ]; omega, rfl⟩, rfl⟩
  · have hn : n = i := by omega
    have hp256 : p ≤ 256 := by
      have := pow_mono (p := p) (by omega) (i := 1) (j := i) (by omega)
      rw [Int.pow_succ, Int.pow_zero, Int.one_mul] at this; omega
    have : ordF p n = p ^ i := by
      subst hn
      simp only [ordF, Int.toNat_natCast]
      rw [if_pos (by omega)]
    rw [this] at hQ
    simp [l93_10, r93_0, r93_1, r93_2, r93_3, r93_4, r93_5, r93_6, r93_7, r93_8, r93_9, r93_11, c93, e1, e3, e4, hl, hQ]
theorem isPr_iff {n : Int} (h : 2 ≤ n) : isPr n ↔ ∀ d, 2 ≤ d → d < n → n % d ≠ 0 := by
  constructor
  · rintro ⟨_, hp⟩ d h1 h2 h3
    by_cases h4 : d * d ≤ n
    · exact hp d h1 h4 h3
    · have h5 := Int.emod_add_mul_ediv n d
      rw [h3, Int.zero_add] at h5
      have hc : 2 ≤ n / d := by
        refine Decidable.byContradiction fun hn => ?_
        have := (mul_bd (a := d) (b := n / d) (A := d) (B := 1) (by omega) (Int.le_refl _) (Int.ediv_nonneg (by omega) (by omega)) (by omega)).2
        omega
      have hcd : n / d < d := by
        refine Decidable.byContradiction fun hn => ?_
        have := (mul_bd (a := d) (b := d) (A := d) (B := n / d) (by omega) (Int.le_refl _) (by omega) (by omega)).2
        omega
      refine hp (n / d) hc ?_ ?_
      · have := (mul_bd (a := n / d) (b := n / d) (A := d) (B := n / d) (by omega) (by omega) (by omega) (Int.le_refl _)).2
        omega
      · have : d * (n / d) % (n / d) = 0 := Int.mul_emod_left _ _
        rwa [h5] at this
  · intro hp
    refine ⟨h, fun d h1 h2 h3 => hp d h1 ?_ h3⟩
    have := (mul_bd (a := 2) (b := d) (A := d) (B := d) (by omega) h1 (by omega) (Int.le_refl _)).2
    omega
structure RpI (n : Int) (m : Mem) (k : Nat) (e : Env) (m' : Mem) : Prop where
  d : ∃ d : Int, e 0 = I n ∧ e 3 = I d ∧ 2 ≤ d ∧ d ≤ n ∧ (n - d).toNat = k ∧ ∀ c, 2 ≤ c → c < d → n % c ≠ 0
  m : m' = m
theorem rprime_wv {n : Int} {m : Mem} {Q : V → Mem → Prop} (h1 : 2 ≤ n) (h : n ≤ 256) (hQ : ∀ b : Bool, (b = true ↔ isPr n) → Q (.bool b) m) : WV (DD 94 [I n] m) Q := by
  rw [e94]
  refine WV_fin ?_
  simp [r94_0, r94_1, r94_2, r94_3, r94_4, r94_5, r94_7, c94]
  refine W_loop (RpI n m) ?_ (n - 2).toNat _ _ ⟨⟨2, by simp, by simp, by omega, by omega, by omega, fun c h1 h2 => by omega⟩, rfl⟩
  rintro k e m' ⟨⟨d, e0, e3, hd, hd2, hk, hall⟩, rfl⟩
  have w : IntKind.i64.wrap (d + 1) = d + 1 := wrap64_in (by omega) (by omega)
  by_cases hlt : d < n
  · have b := bin_rem 3 n d T (by omega)
    rw [tmod_pos (by omega)] at b
    by_cases hz : n % d = 0
    · simp [l94_6, r94_0, r94_1, r94_2, r94_3, r94_4, r94_5, r94_7, c94, e0, e3, hlt, b, hz]
      exact hQ false (by simp [isPr_iff h1]; exact ⟨d, hd, hlt, hz⟩)
    · simp [l94_6, r94_0, r94_1, r94_2, r94_3, r94_4, r94_5, r94_7, c94, e0, e3, hlt, b, hz, w]
      refine ⟨(n - (d + 1)).toNat, by omega, ⟨_, by simp [e0], by simp, by omega, by omega, rfl, fun c hc1 hc2 => ?_⟩, rfl⟩
      by_cases hcd : c = d
      · subst hcd; exact hz
      · exact hall c hc1 (by omega)
  · simp [l94_6, r94_0, r94_1, r94_2, r94_3, r94_4, r94_5, r94_7, c94, e0, e3, hlt]
    exact hQ true (by simp [isPr_iff h1]; exact fun c h2 h3 => hall c h2 (by omega))
structure RdI (p x : Int) (n : Nat) (m : Mem) (k : Nat) (e : Env) (m' : Mem) : Prop where
  d : ∃ (i : Nat) (l : List Int), e 0 = I (cut p i x) ∧ e 1 = I p ∧ e 2 = I n ∧ e 7 = .sl m.length 0 n n 1 true ∧ e 8 = I i ∧ i ≤ n ∧ n - i = k ∧ l.length = n ∧ m' = m ++ [⟨l.map I, 2⟩] ∧ ∀ j, j < i → l[j]? = some (cut p j x % p)
theorem rdigits_wv {x p n : Int} {m : Mem} {Q : V → Mem → Prop} (hx : 0 ≤ x) (hx2 : x ≤ 100000) (hp : 1 ≤ p) (hn : 0 ≤ n) (hn2 : n ≤ 1000) (hQ : Q (.sl m.length 0 n.toNat n.toNat 1 true) (m ++ [⟨(digs p n.toNat x).map I, 2⟩])) : WV (DD 123 [I x, I p, I n] m) Q := by
  obtain ⟨n, rfl⟩ : ∃ k : Nat, n = k := ⟨n.toNat, by omega⟩
  simp only [Int.toNat_natCast] at hQ
  rw [e123]
  refine WV_fin ?_
  simp [r123_0, r123_1, r123_2, r123_3, r123_4, r123_5, r123_6, r123_8, c123, mk22 (l := n) (c := n) (by omega) (by omega) (by omega)]
  refine W_loop (RdI p x n m) ?_ n _ _ ⟨⟨0, List.replicate n 0, by simp [cut], by simp, by simp, by simp, by simp, by omega, by omega, by simp, by simp, fun j hj => by omega⟩⟩
  rintro k e m' ⟨⟨i, l, e0, e1, e2, e7, e8, hi, hk, hl, rfl, hd⟩⟩
  have hc := cut_nonneg (p := p) (by omega) (i := i) hx
  have hc2 := cut_le (p := p) (by omega) (i := i) hx
  have w2 : IntKind.i64.wrap ((i : Int) + 1) = i + 1 := wrap64_in (by omega) (by omega)
  by_cases hlt : i < n
  · have r1 := bin_rem 3 (cut p i x) p T (by omega)
    have r2 := bin_quo 3 (cut p i x) p T (by omega)
    rw [tmod_pos hc] at r1
    rw [tdiv_pos hc] at r2
    have hq0 := Int.ediv_nonneg hc (show 0 ≤ p by omega)
    have hq := Int.ediv_le_self p hc
    rw [wrap64_in (n := cut p i x / p) (by omega) (by omega)] at r2
    have ix := ia22 (b := m.length) (o := 0) (n := n) (c := n) (ex := true) (ix := i) (by omega) (by omega)
    have s1 := sc_ints (m := m ++ [⟨l.map I, 2⟩]) (b := m.length) (l := l) (At.new1 _ _ _) (o := i) (x := cut p i x % p) (by omega)
    simp [l123_7, r123_0, r123_1, r123_2, r123_3, r123_4, r123_5, r123_6, r123_8, c123, e0, e1, e2, e7, e8, hlt, r1, r2, ix, s1, w2]
    refine ⟨n - (i + 1), by omega, ⟨i + 1, l.set i (cut p i x % p), by simp [cut], by simp [e1], by simp [e2], by simp [e7], by simp, by omega, rfl, by simp [hl], by simp [List.map_set], fun j hj => ?_⟩⟩
    by_cases e : j = i
    · subst e; simp [hl, hlt]
    · rw [List.getElem?_set_ne (by omega)]; exact hd j (by omega)
  · simp [l123_7, r123_0, r123_1, r123_2, r123_3, r123_4, r123_5, r123_6, r123_8, c123, e0, e1, e2, e7, e8, hlt]
    have : l = digs p n x := by
      apply List.ext_getElem?
      intro j
      rcases Nat.lt_or_ge j n with h | h
      · rw [hd j (by omega), digs_get p n x j h]
      · rw [List.getElem?_eq_none (by omega), List.getElem?_eq_none (by simp; omega)]
    rw [← this] at hQ
    exact hQ
def rpart (p : Int) (low r : List Int) (i j : Nat) : List Int := (List.range r.length).map fun t => if i - low.length ≤ t ∧ t < i - low.length + j then (r.getD t 0 + (p - r.getD i 0) * low.getD (t - (i - low.length)) 0) % p else r.getD t 0
theorem rpart_get (p : Int) (low r : List Int) (i j t : Nat) (h : t < r.length) : (rpart p low r i j)[t]? = some (if i - low.length ≤ t ∧ t < i - low.length + j then (r.getD t 0 + (p - r.getD i 0) * low.getD (t - (i - low.length)) 0) % p else r.getD t 0) := by
  rw [rpart, List.getElem?_map, List.getElem?_range h]; rfl
@[simp] theorem rpart_len (p : Int) (low r : List Int) (i j : Nat) : (rpart p low r i j).length = r.length := by simp [rpart]
theorem map_range_id (r : List Int) (f : Nat → Int) (h : ∀ t, t < r.length → f t = r.getD t 0) : (List.range r.length).map f = r := by
  apply List.ext_getElem
  · simp
  intro t h1 h2
  rw [List.getElem_map, List.getElem_range, h t h2, getElem_D]
theorem rpart_0 (p : Int) (low r : List Int) (i : Nat) : rpart p low r i 0 = r := map_range_id _ _ fun t _ => by rw [if_neg (by omega)]
theorem rpart_end (p : Int) (low r : List Int) (i : Nat) (hd : low.length ≤ i) (hi : i < r.length) : (rpart p low r i low.length).set i 0 = rstep p low r i := by
  apply List.ext_getElem?
  intro t
  rw [List.getElem?_set]
  by_cases ht : t < r.length
  · rw [rpart_get _ _ _ _ _ _ ht, rstep, List.getElem?_map, List.getElem?_range ht]
    by_cases e : i = t
    · subst e; simp [hi]
    · rw [if_neg e]
      simp only [Option.map_some, show ¬ t = i by omega, if_false, show i - low.length + low.length = i by omega]
  · rw [List.getElem?_eq_none (by simp; omega), List.getElem?_eq_none (by simp; omega)]
    split
    · rename_i e; subst e; omega
    · rfl
theorem rpart_step (p : Int) (low r : List Int) (i j : Nat) (hd : low.length ≤ i) (hi : i < r.length) (hj : j < low.length) :
    (rpart p low r i j).set (i - low.length + j) ((r.getD (i - low.length + j) 0 + (p - r.getD i 0) * low.getD j 0) % p) = rpart p low r i (j + 1) := by
  apply List.ext_getElem?
  intro t
  rw [List.getElem?_set]
  by_cases ht : t < r.length
  · rw [rpart_get _ _ _ _ _ _ ht, rpart_get _ _ _ _ _ _ ht]
    by_cases e : i - low.length + j = t
    · subst e
      rw [if_pos rfl, if_pos (by simpa using ht), if_pos (by omega), show i - low.length + j - (i - low.length) = j by omega]
    · rw [if_neg e]
      by_cases h : i - low.length ≤ t ∧ t < i - low.length + j
      · rw [if_pos h, if_pos (by omega)]
      · rw [if_neg h, if_neg (by omega)]
  · rw [List.getElem?_eq_none (by simp; omega), List.getElem?_eq_none (by simp; omega)]
    split
    · rename_i e; subst e; omega
    · rfl
theorem rstep_Digs {p : Int} (hp : 1 ≤ p) {low r : List Int} (h : Digs p r) (i : Nat) : Digs p (rstep p low r i) := by
  intro t ht
  rw [rstep_len] at ht
  rw [rstep, List.getD_eq_getElem?_getD, List.getElem?_map, List.getElem?_range ht]
  simp only [Option.map_some, Option.getD_some]
  split
  · omega
  · split
    · exact ⟨Int.emod_nonneg _ (by omega), Int.emod_lt_of_pos _ (by omega)⟩
    · exact h t ht
structure DvI (p : Int) (low mod : List Int) (vl : V) (m : Mem) (b : Nat) (ex : Bool) (n : Nat) (k : Nat) (e : Env) (m' : Mem) : Prop where
  d : ∃ r : List Int, e 0 = vl ∧ e 2 = I p ∧ e 7 = I low.length ∧ e 8 = .sl b 0 n n 1 ex ∧ e 9 = I ((low.length : Int) + k - 1) ∧ r.length = n ∧ low.length + k ≤ n ∧ Digs p r ∧
    remL p low r k = remL p low (mod ++ [1]) (mod.length + 1 - low.length) ∧ Pre m m' ∧ Ints m' vl low ∧ At m' b (r.map I) 2
structure DjI (p : Int) (low r : List Int) (i : Nat) (vl : V) (m : Mem) (b : Nat) (ex : Bool) (n : Nat) (k : Nat) (e : Env) (m' : Mem) : Prop where
  d : ∃ j : Nat, e 0 = vl ∧ e 2 = I p ∧ e 7 = I low.length ∧ e 8 = .sl b 0 n n 1 ex ∧ e 9 = I i ∧ e 10 = I (r.getD i 0) ∧ e 11 = I j ∧ j ≤ low.length ∧ low.length - j = k ∧ Pre m m' ∧ Ints m' vl low ∧ At m' b ((rpart p low r i j).map I) 2
structure DkI (r : List Int) (m : Mem) (b : Nat) (ex : Bool) (n : Nat) (k : Nat) (e : Env) (m' : Mem) : Prop where
  d : ∃ j : Nat, e 8 = .sl b 0 n n 1 ex ∧ e 12 = I j ∧ j ≤ n ∧ n - j = k ∧ Pre m m' ∧ At m' b (r.map I) 2 ∧ ∀ t, t < j → r.getD t 0 = 0
theorem divides_wv {p : Int} {low mod : List Int} {vl vm : V} {m : Mem} {Q : V → Mem → Prop} (hp : 2 ≤ p) (hp2 : p ≤ 256) (hl : Ints m vl low) (hm : Ints m vm mod) (dl : Digs p low) (dm : Digs p mod) (h1 : low.length ≤ mod.length) (h2 : mod.length ≤ 100)
    (hQ : ∀ m', Pre m m' → Q (.bool (divB p mod low)) m') : WV (DD 130 [vl, vm, I p] m) Q := by
  rw [e130]
  refine WV_fin ?_
  obtain ⟨v1, m1, a1, a2, a3, a4, a5⟩ := append_lit hm (by omega)
  obtain ⟨v2, m2, b1, b2, b3, b4, b5, b6⟩ := append22 (m0 := m) (m := m1) (x := 1) a2 a3 (by omega)
  simp [r130_0, r130_1, r130_2, r130_3, r130_4, r130_5, r130_6, r130_7, r130_8, r130_9, r130_10, r130_12, r130_13, r130_15, r130_16, r130_17, r130_18, r130_19, r130_21, c130, hl.len, a1, lit22, b1]
  obtain ⟨b, ex, rfl, hb, hat⟩ : ∃ b ex, v2 = .sl b 0 (mod.length + 1) (mod.length + 1) 1 ex ∧ m.length ≤ b ∧ At m2 b ((mod ++ [1]).map I) 2 := by
    rcases b2 with ⟨_, h⟩ | ⟨b, ex, h1, h2, h3⟩
    · simp at h
    · exact ⟨b, ex, by simpa using h1, h2, h3⟩
  have w0 : IntKind.i64.wrap ((mod.length : Int) + 1 - 1) = mod.length := by rw [wrap64_in (by omega) (by omega)]; omega
  have w00 : IntKind.i64.wrap (mod.length : Int) = mod.length := wrap64_in (by omega) (by omega)
  simp [w0, w00]
  refine W_loop (DvI p low mod vl m b ex (mod.length + 1)) ?_ (mod.length + 1 - low.length) _ _ ⟨⟨mod ++ [1], by simp, by simp, by simp, by simp, by simp <;> omega, by simp, by omega, ?_, rfl, b3, hl.pre b3, hat⟩⟩
  · rintro k e m' ⟨⟨r, e0, e2, e7, e8, e9, hrl, hk, hrd, hrem, hpre, hil, hatr⟩⟩
    by_cases hz : k = 0
    · subst hz
      have e9' : e 9 = I ((low.length : Int) - 1) := by rw [e9]; simp
      have hlt : ¬ ((low.length : Int) ≤ low.length - 1) := by omega
      simp [l130_14, r130_0, r130_1, r130_2, r130_3, r130_4, r130_5, r130_6, r130_7, r130_8, r130_9, r130_10, r130_12, r130_13, r130_15, r130_16, r130_17, r130_18, r130_19, r130_21, c130, e0, e2, e7, e8, e9', hlt]
      refine W_loop (DkI r m b ex (mod.length + 1)) ?_ (mod.length + 1) _ _ ⟨⟨0, by simp [e8], by simp, by omega, by omega, hpre, hatr, fun t ht => by omega⟩⟩
      rintro k e m' ⟨⟨j, f8, f12, hj, hk2, hpre, hatr, hzero⟩⟩
      simp only [remL] at hrem
      by_cases hlt : j < mod.length + 1
      · have hix := ia22 (b := b) (o := 0) (n := mod.length + 1) (c := mod.length + 1) (ex := ex) (ix := j) (by omega) (by omega)
        simp only [Int.toNat_natCast, Nat.zero_add] at hix
        have hlc := lc_ints hatr (by omega) (o := j) (by omega)
        have hlt' : (j : Int) < mod.length + 1 := by omega
        have w1 : IntKind.i64.wrap ((j : Int) + 1) = j + 1 := wrap64_in (by omega) (by omega)
        by_cases h0 : r.getD j 0 = 0
        · simp [l130_20, r130_0, r130_1, r130_2, r130_3, r130_4, r130_5, r130_6, r130_7, r130_8, r130_9, r130_10, r130_12, r130_13, r130_15, r130_16, r130_17, r130_18, r130_19, r130_21, c130, f8, f12, hlt', hix, hlc, h0, w1, -List.getD_eq_getElem?_getD]
          refine ⟨mod.length + 1 - (j + 1), by omega, ⟨j + 1, by simp [f8], by simp, by omega, rfl, hpre, hatr, fun t ht => ?_⟩⟩
          by_cases e : t = j
          · subst e; exact h0
          · exact hzero t (by omega)
        · simp [l130_20, r130_0, r130_1, r130_2, r130_3, r130_4, r130_5, r130_6, r130_7, r130_8, r130_9, r130_10, r130_12, r130_13, r130_15, r130_16, r130_17, r130_18, r130_19, r130_21, c130, f8, f12, hlt', hix, hlc, h0, w1, -List.getD_eq_getElem?_getD]
          have : divB p mod low = false := by
            rw [divB, ← hrem, ← Bool.not_eq_true, List.all_eq_true]
            intro hall
            have := hall (r.getD j 0) (by rw [← getElem_D (by omega)]; exact List.getElem_mem _)
            simp only [beq_iff_eq] at this
            exact h0 this
          rw [this] at hQ
          exact hQ _ hpre
      · have hlt' : ¬ (j : Int) < mod.length + 1 := by omega
        simp [l130_20, r130_0, r130_1, r130_2, r130_3, r130_4, r130_5, r130_6, r130_7, r130_8, r130_9, r130_10, r130_12, r130_13, r130_15, r130_16, r130_17, r130_18, r130_19, r130_21, c130, f8, f12, hlt']
        have : divB p mod low = true := by
          rw [divB, ← hrem, List.all_eq_true]
          intro x hx
          obtain ⟨t, ht, rfl⟩ := List.getElem_of_mem hx
          rw [getElem_D ht, hzero t (by omega)]; rfl
        rw [this] at hQ
        exact hQ _ hpre
    · obtain ⟨k, rfl⟩ : ∃ k', k = k' + 1 := ⟨k - 1, by omega⟩
      have e9' : e 9 = I (low.length + k : Nat) := by rw [e9]; congr 1; omega
      have hix := ia22 (b := b) (o := 0) (n := mod.length + 1) (c := mod.length + 1) (ex := ex) (ix := (low.length + k : Nat)) (by omega) (by omega)
      simp only [Int.toNat_natCast, Nat.zero_add] at hix
      have hlc := lc_ints hatr (by omega) (o := low.length + k) (by omega)
      have hge : (low.length : Int) ≤ (low.length + k : Nat) := by omega
      have hge' : ((low.length + k : Nat) : Int) ≥ low.length := by omega
      simp [l130_14, r130_0, r130_1, r130_2, r130_3, r130_4, r130_5, r130_6, r130_7, r130_8, r130_9, r130_10, r130_12, r130_13, r130_15, r130_16, r130_17, r130_18, r130_19, r130_21, c130, e0, e2, e7, e8, e9', hge', hge, hix, hlc, -List.getD_eq_getElem?_getD, -Int.natCast_add]
      refine W_loop (DjI p low r (low.length + k) vl m b ex (mod.length + 1)) ?_ low.length _ _ ⟨⟨0, by simp [e0], by simp [e2], by simp [e7], by simp [e8], by simp [e9', -Int.natCast_add], by simp [-List.getD_eq_getElem?_getD], by simp, by omega, by omega, hpre, hil, by rw [rpart_0]; exact hatr⟩⟩
      rintro c e m' ⟨⟨j, f0, f2, f7, f8, f9, f10, f11, hj, hc, hpre, hil, hatr⟩⟩
      have wj : IntKind.i64.wrap ((j : Int) + 1) = j + 1 := wrap64_in (by omega) (by omega)
      by_cases hlt : j < low.length
      · obtain ⟨b', o', g1, g2⟩ := hil.at (ix := j) (by omega) (by omega)
        rw [Int.toNat_natCast] at g2
        have wi : IntKind.i64.wrap (((low.length + k : Nat) : Int) - low.length) = k := by rw [wrap64_in (by omega) (by omega)]; omega
        have wi2 : IntKind.i64.wrap ((k : Int) + j) = (k + j : Nat) := by rw [wrap64_in (by omega) (by omega)]; omega
        have hix2 := ia22 (b := b) (o := 0) (n := mod.length + 1) (c := mod.length + 1) (ex := ex) (ix := (k + j : Nat)) (by omega) (by omega)
        simp only [Int.toNat_natCast, Nat.zero_add] at hix2
        have hlc2 := lc_ints hatr (by omega) (o := k + j) (by simp; omega)
        have hgv : (rpart p low r (low.length + k) j).getD (k + j) 0 = r.getD (k + j) 0 := by
          rw [List.getD_eq_getElem?_getD, rpart_get _ _ _ _ _ _ (by omega), if_neg (by omega)]; rfl
        rw [hgv] at hlc2
        have d1 := hrd (low.length + k) (by omega)
        have d2 := hrd (k + j) (by omega)
        have d3 := dl j hlt
        have m1 := mul_bd (a := p - r.getD (low.length + k) 0) (A := 256) (b := low.getD j 0) (B := 256) (by omega) (by omega) d3.1 (by omega)
        have w1 : IntKind.i64.wrap (p - r.getD (low.length + k) 0) = p - r.getD (low.length + k) 0 := wrap64_in (by omega) (by omega)
        have w2 : IntKind.i64.wrap ((p - r.getD (low.length + k) 0) * low.getD j 0) = (p - r.getD (low.length + k) 0) * low.getD j 0 := wrap64_in (by omega) (by omega)
        have w3 : IntKind.i64.wrap (r.getD (k + j) 0 + (p - r.getD (low.length + k) 0) * low.getD j 0) = r.getD (k + j) 0 + (p - r.getD (low.length + k) 0) * low.getD j 0 := wrap64_in (by omega) (by omega)
        have r1 := bin_rem 3 (r.getD (k + j) 0 + (p - r.getD (low.length + k) 0) * low.getD j 0) p T (by omega)
        rw [tmod_pos (by omega)] at r1
        have hst := sc_ints hatr (o := k + j) (x := (r.getD (k + j) 0 + (p - r.getD (low.length + k) 0) * low.getD j 0) % p) (by simp; omega)
        have hstep := rpart_step p low r (low.length + k) j (by omega) (by omega) hlt
        rw [show low.length + k - low.length + j = k + j by omega] at hstep
        rw [hstep] at hst
        simp [l130_11, r130_0, r130_1, r130_2, r130_3, r130_4, r130_5, r130_6, r130_7, r130_8, r130_9, r130_10, r130_12, r130_13, r130_15, r130_16, r130_17, r130_18, r130_19, r130_21, c130, f0, f2, f7, f8, f9, f10, f11, hlt, wj, g1, g2, wi, wi2, hix2, hlc2, w1, w2, w3, r1, hst, -List.getD_eq_getElem?_getD, -Int.natCast_add]
        refine ⟨low.length - (j + 1), by omega, ⟨j + 1, by simp [f0], by simp [f2], by simp [f7], by simp [f8], by simp [f9, -Int.natCast_add], by simp [f10], by simp, by omega, rfl, hpre.set (by omega) _, (hl.pre hpre).pre (List.prefix_refl _) |> fun _ => hl.pre (hpre.set (by omega) _), At.set_self hatr⟩⟩
      · have hjl : j = low.length := by omega
        subst hjl
        have hst := sc_ints hatr (o := low.length + k) (x := 0) (by simp; omega)
        rw [rpart_end _ _ _ _ (by omega) (by omega)] at hst
        have wk : IntKind.i64.wrap (((low.length + k : Nat) : Int) - 1) = low.length + k - 1 := by rw [wrap64_in (by omega) (by omega)]; omega
        simp [l130_11, r130_0, r130_1, r130_2, r130_3, r130_4, r130_5, r130_6, r130_7, r130_8, r130_9, r130_10, r130_12, r130_13, r130_15, r130_16, r130_17, r130_18, r130_19, r130_21, c130, f0, f2, f7, f8, f9, f10, f11, hix, hst, wk, -List.getD_eq_getElem?_getD, -Int.natCast_add]
        refine ⟨k, by omega, ⟨rstep p low r (low.length + k), by simp [f0], by simp [f2], by simp [f7], by simp [f8], by simp, by simpa using hrl, by omega, rstep_Digs (by omega) hrd _, hrem, hpre.set (by omega) _, hl.pre (hpre.set (by omega) _), At.set_self hatr⟩⟩
  · intro t ht
    rw [List.getD_eq_getElem?_getD]
    by_cases e : t < mod.length
    · rw [List.getElem?_append_left e, ← List.getD_eq_getElem?_getD]; exact dm t e
    · rw [List.getElem?_append_right (by omega)]
      simp at ht
      rw [show t - mod.length = 0 by omega]
      simp; omega
end Go.Proofs.YtefjnnghfloddaaGreat.Abs

/- Specifications: the reference's check of a field. -/
namespace Go.Proofs.YtefjnnghfloddaaGreat.Abs
set_option linter.unusedVariables false
set_option linter.unusedSimpArgs false
structure IrI (p : Int) (mod : List Int) (vm : V) (m : Mem) (k : Nat) (e : Env) (m' : Mem) : Prop where
  d : ∃ d : Nat, e 0 = vm ∧ e 1 = I p ∧ e 5 = I (p ^ d) ∧ e 6 = I (d + 1 : Nat) ∧ d ≤ mod.length ∧ mod.length - d = k ∧ Pre m m' ∧ ∀ c : Nat, 1 ≤ c → c ≤ d → ∀ v : Int, 0 ≤ v → v < p ^ c → divB p mod (digs p c v) = false
structure IvI (p : Int) (mod : List Int) (vm : V) (d : Nat) (m : Mem) (k : Nat) (e : Env) (m' : Mem) : Prop where
  d : ∃ v : Nat, e 0 = vm ∧ e 1 = I p ∧ e 5 = I (p ^ d) ∧ e 6 = I d ∧ e 7 = I v ∧ (v : Int) ≤ p ^ d ∧ (p ^ d).toNat - v = k ∧ Pre m m' ∧ ∀ u : Int, 0 ≤ u → u < v → divB p mod (digs p d u) = false
theorem irr_wv {p : Int} {mod : List Int} {vm : V} {m : Mem} {Q : V → Mem → Prop} (hp : 2 ≤ p) (hq : p ^ mod.length ≤ 256) (hl : 1 ≤ mod.length) (hl2 : mod.length ≤ 8) (hv : Ints m vm mod) (dm : Digs p mod)
    (hQ : ∀ b m', (b = true ↔ Irr p mod) → Pre m m' → Q (.bool b) m') : WV (DD 95 [vm, I p] m) Q := by
  have hp2 : p ≤ 256 := by
    have := pow_mono hp (i := 1) (j := mod.length) hl
    rw [Int.pow_succ, Int.pow_zero, Int.one_mul] at this; omega
  rw [e95]
  refine WV_fin ?_
  simp [r95_0, r95_1, r95_2, r95_3, r95_4, r95_5, r95_6, r95_7, r95_8, r95_9, r95_11, r95_13, c95]
  refine W_loop (IrI p mod vm m) ?_ mod.length _ _ ⟨⟨0, by simp, by simp, by simp, by simp, by omega, by omega, List.prefix_refl _, fun c h1 h2 => by omega⟩⟩
  rintro k e m' ⟨⟨d, e0, e1, e5, e6, hd, hk, hpre, hall⟩⟩
  have hlen := (hv.pre hpre).len
  have w2 : IntKind.i64.wrap (2 * ((d + 1 : Nat) : Int)) = 2 * (d + 1 : Nat) := wrap64_in (by omega) (by omega)
  have wd : IntKind.i64.wrap (((d + 1 : Nat) : Int) + 1) = (d + 1 + 1 : Nat) := by rw [wrap64_in (by omega) (by omega)]; omega
  by_cases hlt : 2 * ((d + 1 : Nat) : Int) ≤ mod.length
  · have hpd : p ^ (d + 1) ≤ 256 := Int.le_trans (pow_mono hp (i := d + 1) (j := mod.length) (by omega)) hq
    have hpd0 := pow_bd hp (d + 1)
    have w1 : IntKind.i64.wrap (p ^ d * p) = p ^ (d + 1) := by rw [← Int.pow_succ]; exact wrap64_in (n := p ^ (d + 1)) (by omega) (by omega)
    simp [l95_12, r95_0, r95_1, r95_2, r95_3, r95_4, r95_5, r95_6, r95_7, r95_8, r95_9, r95_11, r95_13, c95, e0, e1, e5, e6, hlen, w2, hlt, w1, -Int.natCast_add]
    refine W_loop (IvI p mod vm (d + 1) m) ?_ (p ^ (d + 1)).toNat _ _ ⟨⟨0, by simp [e0], by simp [e1], by simp, by simp [e6, -Int.natCast_add], by simp, by omega, by omega, hpre, fun u h1 h2 => by omega⟩⟩
    rintro c e m' ⟨⟨v, f0, f1, f5, f6, f7, hv2, hc, hpre, hall2⟩⟩
    by_cases hvl : (v : Int) < p ^ (d + 1)
    · have wv : IntKind.i64.wrap ((v : Int) + 1) = (v + 1 : Nat) := by rw [wrap64_in (by omega) (by omega)]; omega
      simp [l95_10, r95_0, r95_1, r95_2, r95_3, r95_4, r95_5, r95_6, r95_7, r95_8, r95_9, r95_11, r95_13, c95, f0, f1, f5, f6, f7, hvl, -Int.natCast_add]
      refine WR_bnd (rdigits_wv (by omega) (by omega) (by omega) (by omega) (by omega) ?_)
      simp only [Int.toNat_natCast]
      have hpre2 : Pre m (m' ++ [⟨(digs p (d + 1) v).map I, 2⟩]) := hpre.app _
      have hi := At.ints (m := m' ++ [⟨(digs p (d + 1) v).map I, 2⟩]) (b := m'.length) (l := digs p (d + 1) v) (st := 2) (At.new1 _ _ _) (by omega) true
      rw [digs_len] at hi
      refine WR_bnd (divides_wv hp hp2 hi (hv.pre hpre2) (digs_Digs (by omega) _ _) dm (by simp; omega) (by omega) fun m2 hp3 => ?_)
      have hpre3 := hpre2.trans hp3
      cases hb : divB p mod (digs p (d + 1) v) with
      | true =>
        simp
        refine hQ false m2 ?_ hpre3
        simp
        intro hI
        rw [hI (d + 1) (by omega) (by omega) v (by omega) hvl] at hb
        cases hb
      | false =>
        simp [f0, f1, f5, f6, f7, wv, -Int.natCast_add]
        refine ⟨(p ^ (d + 1)).toNat - (v + 1), by omega, ⟨v + 1, by simp [f0], by simp [f1], by simp [f5], by simp [f6, -Int.natCast_add], by simp [-Int.natCast_add], by omega, rfl, hpre3, fun u h1 h2 => ?_⟩⟩
        by_cases e : u = v
        · subst e; exact hb
        · exact hall2 u h1 (by omega)
    · simp [l95_10, r95_0, r95_1, r95_2, r95_3, r95_4, r95_5, r95_6, r95_7, r95_8, r95_9, r95_11, r95_13, c95, f0, f1, f5, f6, f7, hvl, wd, -Int.natCast_add]
      refine ⟨mod.length - (d + 1), by omega, ⟨d + 1, by simp [f0], by simp [f1], by simp [f5], by simp [-Int.natCast_add], by omega, rfl, hpre, fun c h1 h2 u h3 h4 => ?_⟩⟩
      by_cases e : c = d + 1
      · subst e; exact hall2 u h3 (by omega)
      · exact hall c h1 (by omega) u h3 h4
  · simp [l95_12, r95_0, r95_1, r95_2, r95_3, r95_4, r95_5, r95_6, r95_7, r95_8, r95_9, r95_11, r95_13, c95, e0, e1, e5, e6, hlen, w2, hlt, -Int.natCast_add]
    refine hQ true m' ?_ hpre
    simp
    intro c h1 h2 v h3 h4
    exact hall c h1 (by omega) v h3 h4
structure RcI (p n : Int) (mod : List Int) (vm : V) (m : Mem) (k : Nat) (e : Env) (m' : Mem) : Prop where
  d : ∃ i : Nat, e 1 = .ptr m.length 0 ∧ e 3 = I i ∧ (i : Int) ≤ n ∧ n.toNat - i = k ∧ Pre m m' ∧ At m' m.length [I p, I n, vm] 2 ∧ ∀ j, j < i → 0 ≤ mod.getD j 0 ∧ mod.getD j 0 < p
theorem rcheck_wv {p n : Int} {mod : List Int} {vm : V} {m : Mem} {Q : V → Mem → Prop} (hv : Ints m vm mod) (h1 : IsF p n mod → ∀ m', Pre m m' → Q (I 0) m') (h2 : ¬ IsF p n mod → ∀ m', Pre m m' → Q (I 1) m') : WV (DD 62 [.agg [I p, I n, vm]] m) Q := by
  rw [e62]
  refine WV_fin ?_
  simp [r62_0, r62_1, r62_2, r62_3, r62_4, r62_5, r62_6, r62_7, r62_8, r62_9, r62_10, r62_11, r62_12, r62_13, r62_15, r62_16, r62_17, c62, hv.cell]
  refine WR_bnd (rorder_wv hv.cell ?_)
  have hP0 : Pre m (m ++ [⟨[I p, I n, vm], 2⟩] ++ [⟨[I p, I n, vm], 2⟩]) := (List.prefix_append m [⟨[I p, I n, vm], 2⟩]).trans (List.prefix_append _ _)
  have hA0 : At (m ++ [⟨[I p, I n, vm], 2⟩] ++ [⟨[I p, I n, vm], 2⟩]) m.length [I p, I n, vm] 2 := At.app (At.new1 _ _ _) _
  generalize hm1 : m ++ [⟨[I p, I n, vm], 2⟩] ++ [⟨[I p, I n, vm], 2⟩] = m1 at *
  have c0 : ∀ m', At m' m.length [I p, I n, vm] 2 → lc m' m.length 0 = some (I p) := fun m' h => by rw [lc_at h (by omega)]; rfl
  have c1 : ∀ m', At m' m.length [I p, I n, vm] 2 → lc m' m.length 1 = some (I n) := fun m' h => by rw [lc_at h (by omega)]; rfl
  have c2 : ∀ m', At m' m.length [I p, I n, vm] 2 → lc m' m.length 2 = some vm := fun m' h => by rw [lc_at h (by omega)]; rfl
  by_cases h0 : ordF p n = 0
  · simp [h0]
    refine h2 ?_ m1 hP0
    rintro ⟨f, hf, rfl, rfl, rfl⟩
    exact (Shape.ord ⟨f.n, rfl, hf.pr, hf.sh⟩).2 h0
  have ho : 2 ≤ p ∧ p ≤ 256 ∧ 1 ≤ n ∧ n ≤ 8 ∧ p ^ n.toNat ≤ 256 := by
    unfold ordF at h0
    split at h0
    · assumption
    · exact (h0 rfl).elim
  simp [h0, c0 _ hA0]
  refine WR_bnd (rprime_wv ho.1 ho.2.1 fun b hb => ?_)
  cases b with
  | false =>
    simp at hb
    simp
    refine h2 ?_ m1 hP0
    rintro ⟨f, hf, rfl, rfl, rfl⟩
    exact hb hf.pr
  | true =>
  have hpr := hb.1 rfl
  have hlen := (hv.pre hP0).len
  by_cases hn1 : n = 1
  · subst hn1
    by_cases hl0 : mod.length = 0
    · obtain rfl : mod = [] := List.length_eq_zero_iff.1 hl0
      simp at hlen
      simp [c1 _ hA0, c2 _ hA0, hlen]
      refine h1 ?_ m1 hP0
      have hd : Digs p [] := fun i hi => by simp at hi
      obtain ⟨x, hx⟩ := gen_of_irr (n := 1) hpr (by omega) (by simpa using ho.2.2.2.2) (.inl ⟨rfl, rfl⟩) hd (by omega)
      refine ⟨⟨p, 1, [], (p ^ 1).toNat, x⟩, ⟨hpr, ⟨ho.1, by simp, by simpa using ho.2.2.2.2, .inl ⟨rfl, rfl⟩, hd⟩, ?_, hx⟩, rfl, rfl, rfl⟩
      have := pow_bd ho.1 1
      simp only
      omega
    · have hl0' : ¬ mod = [] := fun h => hl0 (by rw [h]; rfl)
      simp [c1 _ hA0, c2 _ hA0, hlen, hl0, hl0']
      refine h2 ?_ m1 hP0
      rintro ⟨f, hf, rfl, h, rfl⟩
      rcases hf.sh.hm with h | h
      · exact hl0' h.2
      · omega
  obtain ⟨k, rfl⟩ : ∃ k : Nat, n = k := ⟨n.toNat, by omega⟩
  simp only [Int.toNat_natCast] at ho
  by_cases hlk : mod.length = k
  · subst hlk
    simp [c1 _ hA0, c2 _ hA0, hn1, hlen]
    refine W_loop (RcI p mod.length mod vm m) ?_ mod.length _ _ ⟨⟨0, by simp, by simp, by omega, by omega, hP0, hA0, fun j hj => by omega⟩⟩
    rintro c e m' ⟨⟨i, e1, e3, hi, hc, hpre, hA, hall⟩⟩
    have w1 : IntKind.i64.wrap ((i : Int) + 1) = i + 1 := wrap64_in (by omega) (by omega)
    by_cases hlt : i < mod.length
    · obtain ⟨b, o, a1, a2⟩ := (hv.pre hpre).at (ix := i) (by omega) (by omega)
      rw [Int.toNat_natCast] at a2
      by_cases g1 : mod.getD i 0 < 0
      · simp [l62_14, r62_0, r62_1, r62_2, r62_3, r62_4, r62_5, r62_6, r62_7, r62_8, r62_9, r62_10, r62_11, r62_12, r62_13, r62_15, r62_16, r62_17, c62, e1, e3, hlt, a1, a2, g1, c0 _ hA, c1 _ hA, c2 _ hA, -List.getD_eq_getElem?_getD]
        refine h2 ?_ m' hpre
        rintro ⟨f, hf, rfl, h, rfl⟩
        have := hf.sh.dig i hlt
        omega
      · by_cases g2 : p ≤ mod.getD i 0
        · simp [l62_14, r62_0, r62_1, r62_2, r62_3, r62_4, r62_5, r62_6, r62_7, r62_8, r62_9, r62_10, r62_11, r62_12, r62_13, r62_15, r62_16, r62_17, c62, e1, e3, hlt, a1, a2, g1, g2, c0 _ hA, c1 _ hA, c2 _ hA, -List.getD_eq_getElem?_getD]
          refine h2 ?_ m' hpre
          rintro ⟨f, hf, rfl, h, rfl⟩
          have := hf.sh.dig i hlt
          omega
        · simp [l62_14, r62_0, r62_1, r62_2, r62_3, r62_4, r62_5, r62_6, r62_7, r62_8, r62_9, r62_10, r62_11, r62_12, r62_13, r62_15, r62_16, r62_17, c62, e1, e3, hlt, a1, a2, g1, g2, w1, c0 _ hA, c1 _ hA, c2 _ hA, -List.getD_eq_getElem?_getD]
          refine ⟨mod.length - (i + 1), by omega, ⟨i + 1, by simp [e1], by simp, by omega, by omega, hpre, hA, fun j hj => ?_⟩⟩
          by_cases e : j = i
          · subst e; omega
          · exact hall j (by omega)
    · have hil : i = mod.length := by omega
      subst hil
      have hd : Digs p mod := hall
      simp [l62_14, r62_0, r62_1, r62_2, r62_3, r62_4, r62_5, r62_6, r62_7, r62_8, r62_9, r62_10, r62_11, r62_12, r62_13, r62_15, r62_16, r62_17, c62, e1, e3, c0 _ hA, c1 _ hA, c2 _ hA]
      refine WR_bnd (irr_wv ho.1 ho.2.2.2.2 (by omega) (by omega) (hv.pre hpre) hd fun b m2 hb2 hp2 => ?_)
      have hpre2 := hpre.trans hp2
      cases b with
      | false =>
        simp at hb2
        simp
        refine h2 ?_ m2 hpre2
        rintro ⟨f, hf, rfl, h, rfl⟩
        exact hb2 (irr_of_gen ho.1 (by omega) hf.q (by omega) hd hf.gen)
      | true =>
        simp
        refine h1 ?_ m2 hpre2
        have hirr := hb2.1 rfl
        obtain ⟨x, hx⟩ := gen_of_irr (n := mod.length) hpr (by omega) ho.2.2.2.2 (.inr ⟨by omega, rfl⟩) hd (fun _ => hirr)
        refine ⟨⟨p, mod.length, mod, (p ^ mod.length).toNat, x⟩, ⟨hpr, ⟨ho.1, by simp only; omega, ho.2.2.2.2, .inr ⟨by simp only; omega, rfl⟩, hd⟩, ?_, hx⟩, rfl, rfl, rfl⟩
        have := pow_bd ho.1 mod.length
        simp only
        omega
  · have hlk' : ¬ (mod.length : Int) = k := by omega
    simp [c1 _ hA0, c2 _ hA0, hn1, hlen, hlk, hlk']
    refine h2 ?_ m1 hP0
    rintro ⟨f, hf, rfl, h, rfl⟩
    rcases hf.sh.hm with h | h <;> omega
end Go.Proofs.YtefjnnghfloddaaGreat.Abs

/- Specifications: the reference's arithmetic. -/
namespace Go.Proofs.YtefjnnghfloddaaGreat.Abs
set_option linter.unusedVariables false
set_option linter.unusedSimpArgs false
structure RF (m : Mem) (v : V) (f : Fd) : Prop where
  ok : f.Ok
  at_ : ∃ vm, v = .agg [I f.p, I f.n, vm] ∧ Ints m vm f.mod
theorem RF.pre {m m' : Mem} {v : V} {f : Fd} (h : RF m v f) (hm : Pre m m') : RF m' v f := by
  obtain ⟨ok, vm, h1, h2⟩ := h; exact ⟨ok, vm, h1, h2.pre hm⟩
theorem RF.keep {m m' : Mem} {v : V} {f : Fd} (h : RF m v f) (hm : Keep m m') : RF m' v f := by
  obtain ⟨ok, vm, h1, h2⟩ := h; exact ⟨ok, vm, h1, h2.keep hm⟩
theorem Fd.Ok.ord {f : Fd} (h : f.Ok) : ordF f.p f.n = f.q := by
  have := (Shape.ord ⟨f.n, rfl, h.pr, h.sh⟩).1
  rw [this, h.q]; simp
theorem box_la {m m' : Mem} {b : Nat} {a c d : V} (h : At m' b [a, c, d] 2) : la 3 m' b 0 = some (.agg [a, c, d]) ∧ lc m' b 0 = some a ∧ lc m' b 1 = some c ∧ lc m' b 2 = some d := by
  refine ⟨by rw [la, h]; simp, ?_, ?_, ?_⟩ <;> rw [lc_at h (by omega)] <;> rfl
theorem ris_wv {v : V} {f : Fd} {x : Int} {m : Mem} {Q : V → Mem → Prop} (hg : RF m v f) (hQ : ∀ b m', (b = true ↔ f.F.E x) → Pre m m' → Q (.bool b) m') : WV (DD 74 [v, I x] m) Q := by
  obtain ⟨hf, vm, rfl, hv⟩ := hg
  rw [e74]
  refine WV_fin ?_
  have hE := hf.E x
  by_cases h0 : 0 ≤ x
  · simp [r74_0, r74_1, c74, hv.cell, h0]
    refine WR_bnd (rorder_wv hv.cell ?_)
    simp [hf.ord]
    exact hQ _ _ (by rw [hE]; simp [h0]) ((List.prefix_append _ _))
  · simp [r74_0, r74_1, c74, hv.cell, h0]
    exact hQ _ _ (by rw [hE]; simp [h0]) (List.prefix_append _ _)
theorem rin_wv {v : V} {f : Fd} {x : Int} {m : Mem} {Q : V → Mem → Prop} (hg : RF m v f) (hx : f.F.E x) (hQ : ∀ m', Pre m m' → Q (I x) m') : WV (DD 124 [v, I x] m) Q := by
  obtain ⟨hf, vm, rfl, hv⟩ := hg
  rw [e124]
  refine WV_fin ?_
  simp [r124_0, r124_1, r124_2, r124_3, c124, hv.cell]
  refine WR_bnd (ris_wv (f := f) ⟨hf, vm, rfl, hv.pre (List.prefix_append _ _)⟩ fun b m' hb hp => ?_)
  rw [hb.2 hx]
  simp
  exact hQ _ ((List.prefix_append _ _).trans hp)
theorem rdig_wv {v : V} {f : Fd} {x : Int} {m : Mem} {Q : V → Mem → Prop} (hg : RF m v f) (hx : f.F.E x) (hQ : ∀ m', Pre m m' → Q (.sl m'.length 0 f.n f.n 1 true) (m' ++ [⟨(digs f.p f.n x).map I, 2⟩])) : WV (DD 88 [v, I x] m) Q := by
  have hg' := hg
  obtain ⟨hf, vm, rfl, hv⟩ := hg
  rw [e88]
  refine WV_fin ?_
  simp [r88_0, r88_1, c88, hv.cell]
  refine WR_bnd (rin_wv (f := f) (hg'.pre (List.prefix_append _ _)) hx fun m' hp => ?_)
  have hA := box_la (hp.at (At.new1 m [I f.p, I f.n, vm] 2)) (m := m)
  have hx' := (hf.E x).1 hx
  have := hf.qb
  have := hf.sh.hn
  have := hf.sh.hp
  simp [chkd_of hp, hA.2.1, hA.2.2.1]
  refine WR_bnd (rdigits_wv hx'.1 (by omega) (by omega) (by omega) (by omega) ?_)
  simp
  exact hQ _ ((List.prefix_append _ _).trans hp)
structure RvI (p n : Int) (vm v : V) (l : List Int) (m : Mem) (k : Nat) (e : Env) (m' : Mem) : Prop where
  d : k ≤ l.length ∧ e 1 = v ∧ e 2 = .ptr m.length 0 ∧ e 5 = I (val p (l.drop k)) ∧ e 6 = I ((k : Int) - 1)
  m : m' = m ++ [⟨[I p, I n, vm], 2⟩]
theorem rval_wv {v vm : V} {p n : Int} {l : List Int} {m : Mem} {Q : V → Mem → Prop} (hvm : vm.isCell = true) (hv : Ints m v l) (hp : 2 ≤ p) (hd : Digs p l) (hb : p ^ l.length ≤ 256) (hl : l.length ≤ 1000) (hQ : ∀ m', Pre m m' → Q (I (val p l)) m') : WV (DD 89 [.agg [I p, I n, vm], v] m) Q := by
  rw [e89]
  refine WV_fin ?_
  have hv' := hv.pre (List.prefix_append m [⟨[I p, I n, vm], 2⟩])
  have hlen := hv'.len
  have w0 : IntKind.i64.wrap ((l.length : Int) - 1) = l.length - 1 := wrap64_in (by omega) (by omega)
  simp [r89_0, r89_1, r89_2, r89_3, r89_4, r89_5, r89_7, c89, hvm, hlen, w0]
  refine W_loop (RvI p n vm v l m) ?_ l.length _ _ ⟨⟨by omega, by simp, by simp, by simp [val], by simp⟩, rfl⟩
  rintro k e m' ⟨⟨hk, e1, e2, e5, e6⟩, rfl⟩
  by_cases hz : k = 0
  · subst hz
    simp [l89_6, r89_0, r89_1, r89_2, r89_3, r89_4, r89_5, r89_7, c89, e1, e2, e5, e6, val]
    simpa using hQ _ (List.prefix_append _ _)
  · have h0 : (0 : Int) ≤ (k : Int) - 1 := by omega
    obtain ⟨b, o, a1, a2⟩ := hv'.at (ix := (k : Int) - 1) h0 (by omega)
    have ht : ((k : Int) - 1).toNat = k - 1 := by omega
    rw [ht] at a2
    have hv0 := val_bd (p := p) (by omega) _ (hd.drop k)
    have hv1 := val_bd (p := p) (by omega) _ (hd.drop (k - 1))
    rw [val_drop p l (k - 1) (by omega), show k - 1 + 1 = k by omega] at hv1
    have hpl := pow_mono hp (i := (l.drop (k - 1)).length) (j := l.length) (by simp)
    have hpl2 := pow_mono hp (i := (l.drop k).length) (j := l.length) (by simp)
    have hg := hd (k - 1) (by omega)
    have hpp : p ≤ 256 := by
      have := pow_mono hp (i := 1) (j := l.length) (by omega)
      rw [Int.pow_succ, Int.pow_zero, Int.one_mul] at this; omega
    have hm := mul_bd (a := p) (b := val p (l.drop k)) (by omega) hpp hv0.1 (by omega : val p (l.drop k) ≤ 256)
    have w1 : IntKind.i64.wrap (val p (l.drop k) * p) = val p (l.drop k) * p := by
      rw [Int.mul_comm]
      exact wrap64_in (by omega) (by omega)
    have w2 : IntKind.i64.wrap (val p (l.drop k) * p + l.getD (k - 1) 0) = val p (l.drop (k - 1)) := by
      rw [val_drop p l (k - 1) (by omega), show k - 1 + 1 = k by omega, Int.mul_comm, Int.add_comm]
      exact wrap64_in (by omega) (by omega)
    have w3 : IntKind.i64.wrap ((k : Int) - 1 - 1) = k - 1 - 1 := wrap64_in (by omega) (by omega)
    have h1 : (1 : Int) ≤ k := by omega
    simp [l89_6, r89_0, r89_1, r89_2, r89_3, r89_4, r89_5, r89_7, c89, e1, e2, e5, e6, h0, h1, a1, a2, w1, w2, w3, -List.getD_eq_getElem?_getD]
    refine ⟨k - 1, by omega, ⟨by omega, by simp [e1], by simp [e2], by simp, by simp; omega⟩, rfl⟩
def mapTo (l : List Int) (g : Nat → Int) (i : Nat) : List Int := (List.range l.length).map fun j => if j < i then g j else l.getD j 0
@[simp] theorem mapTo_len (l : List Int) (g : Nat → Int) (i : Nat) : (mapTo l g i).length = l.length := by simp [mapTo]
theorem mapTo_0 (l : List Int) (g : Nat → Int) : mapTo l g 0 = l := map_range_id _ _ fun t _ => by rw [if_neg (by omega)]
theorem mapTo_get (l : List Int) (g : Nat → Int) (i j : Nat) (h : j < l.length) : (mapTo l g i)[j]? = some (if j < i then g j else l.getD j 0) := by
  rw [mapTo, List.getElem?_map, List.getElem?_range h]; rfl
theorem mapTo_set (l : List Int) (g : Nat → Int) (i : Nat) (hi : i < l.length) : (mapTo l g i).set i (g i) = mapTo l g (i + 1) := by
  apply List.ext_getElem?
  intro t
  rw [List.getElem?_set]
  by_cases ht : t < l.length
  · rw [mapTo_get _ _ _ _ ht, mapTo_get _ _ _ _ ht]
    by_cases e : i = t
    · subst e; simp [hi]
    · rw [if_neg e]
      by_cases h : t < i
      · rw [if_pos h, if_pos (by omega)]
      · rw [if_neg h, if_neg (by omega)]
  · rw [List.getElem?_eq_none (by simp; omega), List.getElem?_eq_none (by simp; omega)]
    split
    · rename_i e; subst e; omega
    · rfl
theorem mapTo_end (l : List Int) (g : Nat → Int) : mapTo l g l.length = (List.range l.length).map g := by
  apply List.map_congr_left
  intro j hj
  rw [if_pos (List.mem_range.1 hj)]
structure RaI (f : Fd) (vm : V) (x y : Int) (b ba bb : Nat) (m0 : Mem) (k : Nat) (e : Env) (m' : Mem) : Prop where
  d : ∃ i : Nat, e 3 = .ptr b 0 ∧ e 7 = .sl ba 0 f.n f.n 1 true ∧ e 8 = .sl bb 0 f.n f.n 1 true ∧ e 9 = I i ∧ i ≤ f.n ∧ f.n - i = k ∧ Pre m0 m' ∧ At m' b [I f.p, I f.n, vm] 2 ∧
    At m' ba ((mapTo (digs f.p f.n x) (fun j => (dv f.p f.n x j + dv f.p f.n y j) % f.p) i).map I) 2 ∧ At m' bb ((digs f.p f.n y).map I) 2
theorem radd_wv {v : V} {f : Fd} {x y : Int} {m : Mem} {Q : V → Mem → Prop} (hg : RF m v f) (hx : f.F.E x) (hy : f.F.E y) (hQ : ∀ m', Pre m m' → Q (I (f.F.add x y)) m') : WV (DD 54 [v, I x, I y] m) Q := by
  have hg' := hg
  obtain ⟨hf, vm, rfl, hv⟩ := hg
  have hp2 := hf.sh.hp
  have hpq := hf.sh.p2
  rw [e54]
  refine WV_fin ?_
  simp [r54_0, r54_1, r54_2, r54_3, r54_4, r54_5, r54_6, r54_8, c54, hv.cell]
  refine WR_bnd (rdig_wv (hg'.pre (List.prefix_append _ _)) hx fun m1 hp1 => ?_)
  have hA1 := Pre.at (hp1.trans (List.prefix_append _ [⟨(digs f.p f.n x).map I, 2⟩])) (At.new1 m [I f.p, I f.n, vm] 2)
  simp [(box_la hA1 (m := m)).1]
  refine WR_bnd (rdig_wv (hg'.pre ((List.prefix_append _ _).trans (hp1.trans (List.prefix_append _ _)))) hy fun m2 hp2' => ?_)
  have hp2'' : Pre (m1 ++ [⟨(digs f.p f.n x).map I, 2⟩]) (m2 ++ [⟨(digs f.p f.n y).map I, 2⟩]) := hp2'.trans (List.prefix_append _ _)
  have hA2 := Pre.at hp2'' hA1
  have hpre0 : Pre m (m2 ++ [⟨(digs f.p f.n y).map I, 2⟩]) := (List.prefix_append _ _).trans (hp1.trans ((List.prefix_append _ _).trans hp2''))
  have hBa := Pre.at hp2'' (At.new1 m1 ((digs f.p f.n x).map I) 2)
  have hBb := At.new1 m2 ((digs f.p f.n y).map I) 2
  have hlt1 : m.length < m1.length := by have := hp1.len; simp at this; omega
  have hlt2 : m1.length < m2.length := by have := hp2'.len; simp at this; omega
  simp
  refine W_loop (RaI f vm x y m.length m1.length m2.length m) ?_ f.n _ _ ⟨⟨0, by simp, by simp, by simp, by simp, by omega, by omega, hpre0, hA2, by rw [mapTo_0]; exact hBa, hBb⟩⟩
  rintro k e m' ⟨⟨i, e3, e7, e8, e9, hi, hk, hpre, hA, hBa, hBb⟩⟩
  obtain ⟨c0, c1, c2, c3⟩ := box_la hA (m := m)
  have w1 : IntKind.i64.wrap ((i : Int) + 1) = i + 1 := wrap64_in (by have := hf.sh.hn; omega) (by have := hf.sh.hn; omega)
  by_cases hlt : i < f.n
  · have ia := ia22 (b := m1.length) (o := 0) (n := f.n) (c := f.n) (ex := true) (ix := i) (by omega) (by omega)
    have ib := ia22 (b := m2.length) (o := 0) (n := f.n) (c := f.n) (ex := true) (ix := i) (by omega) (by omega)
    simp only [Int.toNat_natCast, Nat.zero_add] at ia ib
    have la := lc_ints hBa (by omega) (o := i) (by simpa using hlt)
    rw [List.getD_eq_getElem?_getD, mapTo_get _ _ _ _ (by simpa using hlt), if_neg (by omega)] at la
    have lb := lc_ints hBb (by omega) (o := i) (by simpa using hlt)
    have ga : (digs f.p f.n x).getD i 0 = dv f.p f.n x i := rfl
    have gb : (digs f.p f.n y).getD i 0 = dv f.p f.n y i := rfl
    rw [Option.getD_some, ga] at la
    rw [gb] at lb
    have d1 := dv_bd (p := f.p) (by omega) f.n x i
    have d2 := dv_bd (p := f.p) (by omega) f.n y i
    have w2 : IntKind.i64.wrap (dv f.p f.n x i + dv f.p f.n y i) = dv f.p f.n x i + dv f.p f.n y i := wrap64_in (by omega) (by omega)
    have r1 := bin_rem 3 (dv f.p f.n x i + dv f.p f.n y i) f.p T (by omega)
    rw [tmod_pos (by omega)] at r1
    have hst := sc_ints hBa (o := i) (x := (dv f.p f.n x i + dv f.p f.n y i) % f.p) (by simpa using hlt)
    rw [mapTo_set _ (fun j => (dv f.p f.n x j + dv f.p f.n y j) % f.p) _ (by simpa using hlt)] at hst
    simp [l54_7, r54_0, r54_1, r54_2, r54_3, r54_4, r54_5, r54_6, r54_8, c54, e3, e7, e8, e9, hlt, ia, ib, la, lb, c1, w1, w2, r1, hst]
    refine ⟨f.n - (i + 1), by omega, ⟨i + 1, by simp [e3], by simp [e7], by simp [e8], by simp, by omega, rfl, hpre.set (by omega) _, At.set_ne hA (by omega), At.set_self hBa, At.set_ne hBb (by omega)⟩⟩
  · have hin : i = f.n := by omega
    subst hin
    simp [l54_7, r54_0, r54_1, r54_2, r54_3, r54_4, r54_5, r54_6, r54_8, c54, e3, e7, e8, e9, c0]
    have hd : Digs f.p (mapTo (digs f.p f.n x) (fun j => (dv f.p f.n x j + dv f.p f.n y j) % f.p) f.n) := by
      have := mapTo_end (digs f.p f.n x) (fun j => (dv f.p f.n x j + dv f.p f.n y j) % f.p)
      rw [digs_len] at this
      rw [this]
      exact map_Digs (by omega) _ _
    have hi := At.ints hBa (by omega) true
    rw [mapTo_len, digs_len] at hi
    refine WR_bnd (rval_wv hv.cell hi hp2 hd (by simpa using hf.sh.hq) (by simp; have := hf.sh.hn; omega) fun m3 hp3 => ?_)
    simp
    have := hQ m3 (hpre.trans hp3)
    have e := mapTo_end (digs f.p f.n x) (fun j => (dv f.p f.n x j + dv f.p f.n y j) % f.p)
    rw [digs_len] at e
    rw [e]
    exact this
def ngd (p : Int) (n : Nat) (x : Int) (j : Nat) : Int := (p - dv p n x j) % p
structure RnI (f : Fd) (vm : V) (x : Int) (b ba : Nat) (m0 : Mem) (k : Nat) (e : Env) (m' : Mem) : Prop where
  d : ∃ i : Nat, e 2 = .ptr b 0 ∧ e 5 = .sl ba 0 f.n f.n 1 true ∧ e 6 = I i ∧ i ≤ f.n ∧ f.n - i = k ∧ Pre m0 m' ∧ At m' b [I f.p, I f.n, vm] 2 ∧
    At m' ba ((mapTo (digs f.p f.n x) (ngd f.p f.n x) i).map I) 2
theorem rneg_wv {v : V} {f : Fd} {x : Int} {m : Mem} {Q : V → Mem → Prop} (hg : RF m v f) (hx : f.F.E x) (hQ : ∀ m', Pre m m' → Q (I (f.F.neg x)) m') : WV (DD 155 [v, I x] m) Q := by
  have hg' := hg
  obtain ⟨hf, vm, rfl, hv⟩ := hg
  have hp2 := hf.sh.hp
  have hpq := hf.sh.p2
  rw [e155]
  refine WV_fin ?_
  simp [r155_0, r155_1, r155_2, r155_3, r155_4, r155_5, r155_7, c155, hv.cell]
  refine WR_bnd (rdig_wv (hg'.pre (List.prefix_append _ _)) hx fun m1 hp1 => ?_)
  have hA1 := Pre.at (hp1.trans (List.prefix_append _ [⟨(digs f.p f.n x).map I, 2⟩])) (At.new1 m [I f.p, I f.n, vm] 2)
  have hpre0 : Pre m (m1 ++ [⟨(digs f.p f.n x).map I, 2⟩]) := (List.prefix_append _ _).trans (hp1.trans (List.prefix_append _ _))
  have hBa := At.new1 m1 ((digs f.p f.n x).map I) 2
  have hlt1 : m.length < m1.length := by have := hp1.len; simp at this; omega
  simp
  refine W_loop (RnI f vm x m.length m1.length m) ?_ f.n _ _ ⟨⟨0, by simp, by simp, by simp, by omega, by omega, hpre0, hA1, by rw [mapTo_0]; exact hBa⟩⟩
  rintro k e m' ⟨⟨i, e2, e5, e6, hi, hk, hpre, hA, hBa⟩⟩
  obtain ⟨c0, c1, c2, c3⟩ := box_la hA (m := m)
  have w1 : IntKind.i64.wrap ((i : Int) + 1) = i + 1 := wrap64_in (by have := hf.sh.hn; omega) (by have := hf.sh.hn; omega)
  by_cases hlt : i < f.n
  · have ia := ia22 (b := m1.length) (o := 0) (n := f.n) (c := f.n) (ex := true) (ix := i) (by omega) (by omega)
    simp only [Int.toNat_natCast, Nat.zero_add] at ia
    have la := lc_ints hBa (by omega) (o := i) (by simpa using hlt)
    rw [List.getD_eq_getElem?_getD, mapTo_get _ _ _ _ (by simpa using hlt), if_neg (by omega)] at la
    have ga : (digs f.p f.n x).getD i 0 = dv f.p f.n x i := rfl
    rw [Option.getD_some, ga] at la
    have d1 := dv_bd (p := f.p) (by omega) f.n x i
    have w2 : IntKind.i64.wrap (f.p - dv f.p f.n x i) = f.p - dv f.p f.n x i := wrap64_in (by omega) (by omega)
    have r1 := bin_rem 3 (f.p - dv f.p f.n x i) f.p T (by omega)
    rw [tmod_pos (by omega)] at r1
    have hst := sc_ints hBa (o := i) (x := ngd f.p f.n x i) (by simpa using hlt)
    rw [mapTo_set _ (ngd f.p f.n x) _ (by simpa using hlt)] at hst
    rw [show (f.p - dv f.p f.n x i) % f.p = ngd f.p f.n x i from rfl] at r1
    simp [l155_6, r155_0, r155_1, r155_2, r155_3, r155_4, r155_5, r155_7, c155, e2, e5, e6, hlt, ia, la, c1, w1, w2, r1, hst]
    refine ⟨f.n - (i + 1), by omega, ⟨i + 1, by simp [e2], by simp [e5], by simp, by omega, rfl, hpre.set (by omega) _, At.set_ne hA (by omega), At.set_self hBa⟩⟩
  · have hin : i = f.n := by omega
    subst hin
    simp [l155_6, r155_0, r155_1, r155_2, r155_3, r155_4, r155_5, r155_7, c155, e2, e5, e6, c0]
    have e := mapTo_end (digs f.p f.n x) (ngd f.p f.n x)
    rw [digs_len] at e
    have hd : Digs f.p (mapTo (digs f.p f.n x) (ngd f.p f.n x) f.n) := by
      rw [e]
      exact map_Digs (by omega) _ _
    have hi := At.ints hBa (by omega) true
    rw [mapTo_len, digs_len] at hi
    refine WR_bnd (rval_wv hv.cell hi hp2 hd (by simpa using hf.sh.hq) (by simp; have := hf.sh.hn; omega) fun m3 hp3 => ?_)
    simp
    have := hQ m3 (hpre.trans hp3)
    rw [e]
    exact this
end Go.Proofs.YtefjnnghfloddaaGreat.Abs

/- Specifications: the reference's product and inverse. -/
namespace Go.Proofs.YtefjnnghfloddaaGreat.Abs
set_option linter.unusedVariables false
set_option linter.unusedSimpArgs false
theorem apn_single {n : Nat} {md : Vec} {t k : Nat} (h : t < k) (v : Vec) : apn n md (eX t) k v = tXs n md t v := by
  rw [apn_ext (k := t + 1) (k' := k) _ (by omega) (fun i a _ => by rw [eX, if_neg (by omega)]), apn, apn_ext (k := 0) (k' := t) _ (by omega) (fun i _ a => by rw [eX, if_neg (by omega)])]
  funext j; simp [lin, apn, eX]
theorem ev_set {n : Nat} {md : Vec} {p : Int} {c : List Int} {t k : Nat} {d : Int} (h : t < k) (hl : t < c.length) : Cg p (ev n md (lv (c.set t ((c.getD t 0 + d) % p))) k) (lin (ev n md (lv c) k) d (tXs n md t (eX 0))) := by
  rw [← apn_single (n := n) (md := md) h, ev, ev, ← apn_add]
  refine apn_Cg _ (fun i hi => ?_) _
  simp only [lin, lv, eX]
  by_cases e : i = t
  · subst e
    simp [hl]
  · rw [if_neg e, List.getD_eq_getElem?_getD, List.getElem?_set_ne (fun h => e h.symm), ← List.getD_eq_getElem?_getD]; simp
theorem red_step {n : Nat} {p : Int} {mod c : List Int} {i : Nat} (hp : p ≠ 0) (hn : 1 ≤ n) (hm : mod.length = n) (hni : n ≤ i) (hi : i < c.length) :
    Cg p (ev n (lv mod) (lv c) (i + 1)) (ev n (lv mod) (lv (rpart p mod c i n)) i) := by
  have hmv : Vn n (lv mod) := hm ▸ lv_Vn mod
  have h0 := ev_rstep (p := p) (n := n) (md := lv mod) (low := mod) (r := c.take (i + 1)) (i := i) hp (by simp; omega) (by omega)
  rw [show (c.take (i + 1)).length = i + 1 by simp; omega, hm, tXs_top hn hmv, show ev n (lv mod) (lv mod) n = lv mod from apn_e hmv, show lin (lv mod) 1 (lin (fun _ => 0) (-1) (lv mod)) = fun _ => 0 by funext j; simp only [lin]; omega, tXs_zero] at h0
  have e1 : ev n (lv mod) (lv c) (i + 1) = ev n (lv mod) (lv (c.take (i + 1))) (i + 1) := apn_congr _ (fun t ht => by simp [lv, List.getElem?_take, ht]) _
  rw [e1]
  refine h0.trans (.of_eq ?_)
  rw [show lin (ev n (lv mod) (lv (rstep p mod (c.take (i + 1)) i)) (i + 1)) (lv (c.take (i + 1)) i) (fun _ => 0) = ev n (lv mod) (lv (rstep p mod (c.take (i + 1)) i)) (i + 1) by funext j; simp [lin]]
  have hr := fun t => rstep_lv p mod (c.take (i + 1)) i t (by simp; omega)
  rw [ev, apn_ext (k := i) (k' := i + 1) _ (by omega) (fun t a b => by rw [hr, if_pos (by omega)]), ev]
  refine apn_congr _ (fun t ht => ?_) _
  have hti : (c.take (i + 1))[t]? = c[t]? := by rw [List.getElem?_take, if_pos (by omega)]
  have hii : (c.take (i + 1))[i]? = c[i]? := by rw [List.getElem?_take, if_pos (by omega)]
  rw [hr, if_neg (by omega)]
  simp only [lv, List.getD_eq_getElem?_getD, hti, hii]
  rw [rpart_get _ _ _ _ _ _ (by omega), hm]
  by_cases h : i - n ≤ t
  · rw [if_pos ⟨h, ht⟩, if_pos ⟨h, by omega⟩]; simp [List.getD_eq_getElem?_getD]
  · rw [if_neg (fun hh => h hh.1), if_neg (fun hh => h hh.1)]; simp [List.getD_eq_getElem?_getD]
theorem set_Digs {p : Int} {c : List Int} (h : Digs p c) (t : Nat) {x : Int} (hx : 0 ≤ x ∧ x < p) : Digs p (c.set t x) := by
  intro j hj
  rw [List.length_set] at hj
  rw [List.getD_eq_getElem?_getD, List.getElem?_set]
  by_cases e : t = j
  · subst e; simp [hj]; exact hx
  · rw [if_neg e, ← List.getD_eq_getElem?_getD]; exact h j hj
theorem rpart_Digs {p : Int} (hp : 1 ≤ p) {low c : List Int} (h : Digs p c) (i j : Nat) : Digs p (rpart p low c i j) := by
  intro t ht
  rw [rpart_len] at ht
  rw [List.getD_eq_getElem?_getD, rpart_get _ _ _ _ _ _ ht, Option.getD_some]
  split
  · exact ⟨Int.emod_nonneg _ (by omega), Int.emod_lt_of_pos _ (by omega)⟩
  · exact h t ht
structure MuK (f : Fd) (vm : V) (x y : Int) (b ba bb bc : Nat) (m0 : Mem) (c : List Int) (e : Env) (m' : Mem) : Prop where
  e3 : e 3 = .ptr b 0
  e7 : e 7 = .sl ba 0 f.n f.n 1 true
  e8 : e 8 = .sl bb 0 f.n f.n 1 true
  e9 : e 9 = .sl bc 0 (2 * f.n - 1) (2 * f.n - 1) 1 true
  pre : Pre m0 m'
  box : At m' b [I f.p, I f.n, vm] 2
  A : At m' ba ((digs f.p f.n x).map I) 2
  B : At m' bb ((digs f.p f.n y).map I) 2
  C : At m' bc (c.map I) 2
  cl : c.length = 2 * f.n - 1
  cd : Digs f.p c
theorem MuK.set {f : Fd} {vm : V} {x y : Int} {b ba bb bc : Nat} {m0 : Mem} {c c' : List Int} {e e' : Env} {m' : Mem} (h : MuK f vm x y b ba bb bc m0 c e m') (h3 : e' 3 = e 3) (h7 : e' 7 = e 7) (h8 : e' 8 = e 8) (h9 : e' 9 = e 9)
    (hb : b < ba ∧ ba < bb ∧ bb < bc ∧ m0.length ≤ b) (hl : c'.length = c.length) (hd : Digs f.p c') : MuK f vm x y b ba bb bc m0 c' e' (m'.set bc ⟨c'.map I, 2⟩) :=
  ⟨h3 ▸ h.e3, h7 ▸ h.e7, h8 ▸ h.e8, h9 ▸ h.e9, h.pre.set (by omega) _, At.set_ne h.box (by omega), At.set_ne h.A (by omega), At.set_ne h.B (by omega), At.set_self h.C, by rw [hl, h.cl], hd⟩
theorem MuK.env {f : Fd} {vm : V} {x y : Int} {b ba bb bc : Nat} {m0 : Mem} {c : List Int} {e e' : Env} {m' : Mem} (h : MuK f vm x y b ba bb bc m0 c e m') (h3 : e' 3 = e 3) (h7 : e' 7 = e 7) (h8 : e' 8 = e 8) (h9 : e' 9 = e 9) : MuK f vm x y b ba bb bc m0 c e' m' :=
  ⟨h3 ▸ h.e3, h7 ▸ h.e7, h8 ▸ h.e8, h9 ▸ h.e9, h.pre, h.box, h.A, h.B, h.C, h.cl, h.cd⟩
structure MuO (f : Fd) (vm : V) (x y : Int) (b ba bb bc : Nat) (m0 : Mem) (k : Nat) (e : Env) (m' : Mem) : Prop where
  d : ∃ (i : Nat) (c : List Int), MuK f vm x y b ba bb bc m0 c e m' ∧ e 10 = I i ∧ i ≤ f.n ∧ f.n - i = k ∧ Cg f.p (ev f.n (lv f.mod) (lv c) (2 * f.n - 1)) (apn f.n (lv f.mod) (dv f.p f.n x) i (dv f.p f.n y))
structure MuJ (f : Fd) (vm : V) (x y : Int) (b ba bb bc : Nat) (m0 : Mem) (i : Nat) (k : Nat) (e : Env) (m' : Mem) : Prop where
  d : ∃ (j : Nat) (c : List Int), MuK f vm x y b ba bb bc m0 c e m' ∧ e 10 = I i ∧ e 11 = I j ∧ j ≤ f.n ∧ f.n - j = k ∧ Cg f.p (ev f.n (lv f.mod) (lv c) (2 * f.n - 1)) (lin (apn f.n (lv f.mod) (dv f.p f.n x) i (dv f.p f.n y)) (dv f.p f.n x i) (tXs f.n (lv f.mod) i (apn f.n (lv f.mod) (dv f.p f.n y) j (eX 0))))
structure MuR (f : Fd) (vm : V) (x y : Int) (b ba bb bc : Nat) (m0 : Mem) (k : Nat) (e : Env) (m' : Mem) : Prop where
  d : ∃ (c : List Int), MuK f vm x y b ba bb bc m0 c e m' ∧ e 12 = I ((f.n : Int) + k - 1) ∧ k ≤ f.n - 1 ∧ Cg f.p (ev f.n (lv f.mod) (lv c) (f.n + k)) (mulZ f.n (lv f.mod) (dv f.p f.n y) (dv f.p f.n x))
structure MuS (f : Fd) (vm : V) (x y : Int) (b ba bb bc : Nat) (m0 : Mem) (c : List Int) (i : Nat) (k : Nat) (e : Env) (m' : Mem) : Prop where
  d : ∃ j : Nat, MuK f vm x y b ba bb bc m0 (rpart f.p f.mod c i j) e m' ∧ e 12 = I i ∧ e 13 = I j ∧ j ≤ f.n ∧ f.n - j = k
theorem rmul_wv {v : V} {f : Fd} {x y : Int} {m : Mem} {Q : V → Mem → Prop} (hg : RF m v f) (hx : f.F.E x) (hy : f.F.E y) (hQ : ∀ m', Pre m m' → Q (I (f.F.mul x y)) m') : WV (DD 115 [v, I x, I y] m) Q := by
  have hg' := hg
  obtain ⟨hf, vm, rfl, hv⟩ := hg
  have hp2 := hf.sh.hp
  have hpq := hf.sh.p2
  have hn := hf.sh.hn
  rw [e115]
  refine WV_fin ?_
  simp [r115_0, r115_1, r115_2, r115_3, r115_4, r115_5, r115_6, r115_7, r115_8, r115_9, r115_11, r115_13, r115_14, r115_15, r115_16, r115_17, r115_18, r115_20, r115_22, c115, hv.cell]
  refine WR_bnd (rdig_wv (hg'.pre (List.prefix_append _ _)) hx fun m1 hp1 => ?_)
  have hA1 := Pre.at (hp1.trans (List.prefix_append _ [⟨(digs f.p f.n x).map I, 2⟩])) (At.new1 m [I f.p, I f.n, vm] 2)
  simp [(box_la hA1 (m := m)).1]
  refine WR_bnd (rdig_wv (hg'.pre ((List.prefix_append _ _).trans (hp1.trans (List.prefix_append _ _)))) hy fun m2 hp2' => ?_)
  have hp2'' : Pre (m1 ++ [⟨(digs f.p f.n x).map I, 2⟩]) (m2 ++ [⟨(digs f.p f.n y).map I, 2⟩]) := hp2'.trans (List.prefix_append _ _)
  have hA2 := Pre.at hp2'' hA1
  have hpre0 : Pre m (m2 ++ [⟨(digs f.p f.n y).map I, 2⟩]) := (List.prefix_append _ _).trans (hp1.trans ((List.prefix_append _ _).trans hp2''))
  have hBa := Pre.at hp2'' (At.new1 m1 ((digs f.p f.n x).map I) 2)
  have hBb := At.new1 m2 ((digs f.p f.n y).map I) 2
  have hlt1 : m.length < m1.length := by have := hp1.len; simp at this; omega
  have hlt2 : m1.length < m2.length := by have := hp2'.len; simp at this; omega
  have w1 : IntKind.i64.wrap (2 * (f.n : Int)) = 2 * f.n := wrap64_in (by omega) (by omega)
  have w2 : IntKind.i64.wrap (2 * (f.n : Int) - 1) = (2 * f.n - 1 : Nat) := by rw [wrap64_in (by omega) (by omega)]; omega
  have w3 : IntKind.i64.wrap (2 * (f.n : Int) - 2) = 2 * f.n - 2 := wrap64_in (by omega) (by omega)
  simp [(box_la hA2 (m := m)).2.2.1, w1, w2, mk22 (l := (2 * f.n - 1 : Nat)) (c := (2 * f.n - 1 : Nat)) (by omega) (by omega) (by omega)]
  have hK0 : ∀ e : Env, e 3 = .ptr m.length 0 → e 7 = .sl m1.length 0 f.n f.n 1 true → e 8 = .sl m2.length 0 f.n f.n 1 true → e 9 = .sl (m2.length + 1) 0 (2 * f.n - 1) (2 * f.n - 1) 1 true →
      MuK f vm x y m.length m1.length m2.length (m2.length + 1) m (List.replicate (2 * f.n - 1) 0) e (m2 ++ [⟨(digs f.p f.n y).map I, 2⟩, ⟨List.replicate (2 * f.n - 1) (I 0), 2⟩]) := by
    intro e h3 h7 h8 h9
    have happ : m2 ++ [⟨(digs f.p f.n y).map I, 2⟩, ⟨List.replicate (2 * f.n - 1) (I 0), 2⟩] = (m2 ++ [⟨(digs f.p f.n y).map I, 2⟩]) ++ [⟨List.replicate (2 * f.n - 1) (I 0), 2⟩] := by simp
    rw [happ]
    refine ⟨h3, h7, h8, h9, hpre0.app _, At.app hA2 _, At.app hBa _, At.app hBb _, ?_, by simp, rep_Digs (by omega) _⟩
    have := At.new1 (m2 ++ [⟨(digs f.p f.n y).map I, 2⟩]) ((List.replicate (2 * f.n - 1) 0).map I) 2
    simpa using this
  have hord : m.length < m1.length ∧ m1.length < m2.length ∧ m2.length < m2.length + 1 ∧ m.length ≤ m.length := by omega
  have hE0 : apn f.n (lv f.mod) (dv f.p f.n y) f.n (eX 0) = dv f.p f.n y := apn_e (dv_Vn _ _ _)
  refine W_loop (MuO f vm x y m.length m1.length m2.length (m2.length + 1) m) ?_ f.n _ _ ⟨⟨0, _, hK0 _ (by simp) (by simp) (by simp) (by simp), by simp, by omega, by omega, .of_eq ?_⟩⟩
  · rintro k e m' ⟨⟨i, c, hK, e10, hi, hk, hc⟩⟩
    obtain ⟨c0, c1, c2, c3⟩ := box_la hK.box (m := m)
    have wi : IntKind.i64.wrap ((i : Int) + 1) = i + 1 := wrap64_in (by omega) (by omega)
    by_cases hlt : i < f.n
    · simp [l115_12, r115_0, r115_1, r115_2, r115_3, r115_4, r115_5, r115_6, r115_7, r115_8, r115_9, r115_11, r115_13, r115_14, r115_15, r115_16, r115_17, r115_18, r115_20, r115_22, c115, hK.e3, e10, c2, hlt]
      refine W_loop (MuJ f vm x y m.length m1.length m2.length (m2.length + 1) m i) ?_ f.n _ _ ⟨⟨0, c, hK.env (by simp) (by simp) (by simp) (by simp), by simp [e10], by simp, by omega, by omega, hc.trans (.of_eq ?_)⟩⟩
      · rintro k' e' m'' ⟨⟨j, c, hK, f10, f11, hj, hk', hc⟩⟩
        obtain ⟨c0, c1, c2, c3⟩ := box_la hK.box (m := m)
        have wj : IntKind.i64.wrap ((j : Int) + 1) = j + 1 := wrap64_in (by omega) (by omega)
        by_cases hjl : j < f.n
        · have wij : IntKind.i64.wrap ((i : Int) + j) = (i + j : Nat) := by rw [wrap64_in (by omega) (by omega)]; omega
          have ic := ia22 (b := m2.length + 1) (o := 0) (n := 2 * f.n - 1) (c := 2 * f.n - 1) (ex := true) (ix := (i + j : Nat)) (by omega) (by omega)
          have ia := ia22 (b := m1.length) (o := 0) (n := f.n) (c := f.n) (ex := true) (ix := i) (by omega) (by omega)
          have ib := ia22 (b := m2.length) (o := 0) (n := f.n) (c := f.n) (ex := true) (ix := j) (by omega) (by omega)
          simp only [Int.toNat_natCast, Nat.zero_add] at ia ib ic
          have la := lc_ints hK.A (by omega) (o := i) (by simpa using hlt)
          have lb := lc_ints hK.B (by omega) (o := j) (by simpa using hjl)
          have lcc := lc_ints hK.C (by omega) (o := i + j) (by rw [hK.cl]; omega)
          rw [show (digs f.p f.n x).getD i 0 = dv f.p f.n x i from rfl] at la
          rw [show (digs f.p f.n y).getD j 0 = dv f.p f.n y j from rfl] at lb
          have d1 := dv_bd (p := f.p) (by omega) f.n x i
          have d2 := dv_bd (p := f.p) (by omega) f.n y j
          have d3 := hK.cd (i + j) (by rw [hK.cl]; omega)
          have mb := mul_bd (a := dv f.p f.n x i) (A := 256) (b := dv f.p f.n y j) (B := 256) d1.1 (by omega) d2.1 (by omega)
          have w4 : IntKind.i64.wrap (dv f.p f.n x i * dv f.p f.n y j) = dv f.p f.n x i * dv f.p f.n y j := wrap64_in (by omega) (by omega)
          have w5 : IntKind.i64.wrap (c.getD (i + j) 0 + dv f.p f.n x i * dv f.p f.n y j) = c.getD (i + j) 0 + dv f.p f.n x i * dv f.p f.n y j := wrap64_in (by omega) (by omega)
          have r1 := bin_rem 3 (c.getD (i + j) 0 + dv f.p f.n x i * dv f.p f.n y j) f.p T (by omega)
          rw [tmod_pos (by omega)] at r1
          have hst := sc_ints hK.C (o := i + j) (x := (c.getD (i + j) 0 + dv f.p f.n x i * dv f.p f.n y j) % f.p) (by rw [hK.cl]; omega)
          have hev := ev_set (n := f.n) (md := lv f.mod) (p := f.p) (c := c) (t := i + j) (k := 2 * f.n - 1) (d := dv f.p f.n x i * dv f.p f.n y j) (by omega) (by rw [hK.cl]; omega)
          have hsd := set_Digs hK.cd (i + j) (x := (c.getD (i + j) 0 + dv f.p f.n x i * dv f.p f.n y j) % f.p) ⟨Int.emod_nonneg _ (by omega), Int.emod_lt_of_pos _ (by omega)⟩
          have hsl : (c.set (i + j) ((c.getD (i + j) 0 + dv f.p f.n x i * dv f.p f.n y j) % f.p)).length = c.length := by simp
          generalize c.set (i + j) ((c.getD (i + j) 0 + dv f.p f.n x i * dv f.p f.n y j) % f.p) = c' at *
          simp [l115_10, r115_0, r115_1, r115_2, r115_3, r115_4, r115_5, r115_6, r115_7, r115_8, r115_9, r115_11, r115_13, r115_14, r115_15, r115_16, r115_17, r115_18, r115_20, r115_22, c115, hK.e3, hK.e7, hK.e8, hK.e9, f10, f11, c1, c2, hjl, wij, ic, ia, ib, la, lb, lcc, w4, w5, r1, hst, wj, -List.getD_eq_getElem?_getD, -Int.natCast_add]
          refine ⟨f.n - (j + 1), by omega, ⟨j + 1, c', hK.set (by simp) (by simp) (by simp) (by simp) hord hsl hsd, by simp [f10], by simp, by omega, rfl, hev.trans ((hc.lin (.refl _) _).trans (.of_eq ?_))⟩⟩
          rw [apn, tXs_lin, ← tXs_add]
          funext t; simp only [lin]; rw [Int.mul_add, Int.add_assoc, Int.mul_assoc]
        · have hjn : j = f.n := by omega
          subst hjn
          simp [l115_10, r115_0, r115_1, r115_2, r115_3, r115_4, r115_5, r115_6, r115_7, r115_8, r115_9, r115_11, r115_13, r115_14, r115_15, r115_16, r115_17, r115_18, r115_20, r115_22, c115, hK.e3, f10, f11, c2, wi]
          refine ⟨f.n - (i + 1), by omega, ⟨i + 1, c, hK.env (by simp) (by simp) (by simp) (by simp), by simp, by omega, rfl, hc.trans (.of_eq ?_)⟩⟩
          rw [apn, hE0]
      · funext t; simp [lin, apn, tXs_zero]
    · have hin : i = f.n := by omega
      subst hin
      have hsl := slice22_hi (b := m2.length + 1) (o := 0) (n := 2 * f.n - 1) (c := 2 * f.n - 1) (ex := true) (a := (f.n : Int)) (by omega) (by omega)
      simp only [Int.toNat_natCast] at hsl
      simp [l115_12, r115_0, r115_1, r115_2, r115_3, r115_4, r115_5, r115_6, r115_7, r115_8, r115_9, r115_11, r115_13, r115_14, r115_15, r115_16, r115_17, r115_18, r115_20, r115_22, c115, hK.e3, e10, c2, w1, w3]
      refine W_loop (MuR f vm x y m.length m1.length m2.length (m2.length + 1) m) ?_ (f.n - 1) _ _ ⟨⟨c, hK.env (by simp) (by simp) (by simp) (by simp), by simp; omega, by omega, ?_⟩⟩
      · rintro k e m' ⟨⟨c, hK, e12, hkn, hc⟩⟩
        obtain ⟨c0, c1, c2, c3⟩ := box_la hK.box (m := m)
        by_cases hk0 : k = 0
        · subst hk0
          have e12' : e 12 = I ((f.n : Int) - 1) := by rw [e12]; simp
          have hlt : ¬ ((f.n : Int) ≤ f.n - 1) := by omega
          simp [l115_21, r115_0, r115_1, r115_2, r115_3, r115_4, r115_5, r115_6, r115_7, r115_8, r115_9, r115_11, r115_13, r115_14, r115_15, r115_16, r115_17, r115_18, r115_20, r115_22, c115, hK.e3, hK.e9, e12', c0, c2, hlt, hsl]
          have hcl := hK.cl
          have htk : (c.take f.n).length = f.n := by simp; omega
          have hint : Ints m' (.sl (m2.length + 1) 0 f.n (2 * f.n - 1) 1 true) (c.take f.n) := by
            refine .inr (.inr ⟨m2.length + 1, 0, 2 * f.n - 1, true, _, by rw [htk], hK.C, by simp, by omega, fun t ht => ⟨I (c.take f.n)[t], ?_, rfl⟩⟩)
            simp at ht
            simp [ht]
          have hdt : Digs f.p (c.take f.n) := by
            intro t ht
            have := hK.cd t (by omega)
            rw [htk] at ht
            rwa [List.getD_eq_getElem?_getD, List.getElem?_take, if_pos ht, ← List.getD_eq_getElem?_getD]
          refine WR_bnd (rval_wv hv.cell hint hp2 hdt (by rw [htk]; exact hf.sh.hq) (by omega) fun m3 hp3 => ?_)
          have hval := val_bd (p := f.p) (by omega) _ hdt
          rw [htk] at hval
          have hres : val f.p (c.take f.n) = f.F.mul x y := by
            refine res_ext (p := f.p) (n := f.n) (by omega) hval (mulM_El hf.F.p1) ?_
            rw [dv_val (by omega) htk hdt]
            refine Cg.trans ?_ (mulM_Cg (p := f.p) (by omega) f.n f.mod x y).symm
            rw [mulZ_comm (dv_Vn _ _ _) (dv_Vn _ _ _)]
            refine Cg.trans (.of_eq ?_) hc
            rw [Nat.add_zero, ev, apn_congr (b := lv (c.take f.n)) _ (fun t ht => by simp [lv, List.getElem?_take, ht])]
            have := lv_Vn (c.take f.n)
            rw [htk] at this
            exact (apn_e this).symm
          simp [hres]
          exact hQ _ (hK.pre.trans hp3)
        · obtain ⟨k, rfl⟩ : ∃ k', k = k' + 1 := ⟨k - 1, by omega⟩
          have hml : f.mod.length = f.n := by rcases hf.sh.hm with h | h <;> omega
          have e12' : e 12 = I (f.n + k : Nat) := by rw [e12]; congr 1; omega
          have hge : (f.n : Int) ≤ (f.n + k : Nat) := by omega
          have hcl := hK.cl
          simp [l115_21, r115_0, r115_1, r115_2, r115_3, r115_4, r115_5, r115_6, r115_7, r115_8, r115_9, r115_11, r115_13, r115_14, r115_15, r115_16, r115_17, r115_18, r115_20, r115_22, c115, hK.e3, e12', c2, hge, -Int.natCast_add]
          have hcs : Cg f.p (ev f.n (lv f.mod) (lv (rpart f.p f.mod c (f.n + k) f.n)) (f.n + k)) (mulZ f.n (lv f.mod) (dv f.p f.n y) (dv f.p f.n x)) :=
            (red_step (by omega) hn.1 hml (by omega) (by omega)).symm.trans hc
          have hcd0 := hK.cd
          refine W_loop (MuS f vm x y m.length m1.length m2.length (m2.length + 1) m c (f.n + k)) ?_ f.n _ _ ⟨⟨0, by rw [rpart_0]; exact hK.env (by simp) (by simp) (by simp) (by simp), by simp [e12', -Int.natCast_add], by simp, by omega, by omega⟩⟩
          rintro k' e' m'' ⟨⟨j, hK, f12, f13, hj, hk'⟩⟩
          obtain ⟨c0, c1, c2, c3⟩ := box_la hK.box (m := m)
          have wj : IntKind.i64.wrap ((j : Int) + 1) = j + 1 := wrap64_in (by omega) (by omega)
          by_cases hjl : j < f.n
          · have wi : IntKind.i64.wrap (((f.n + k : Nat) : Int) - f.n) = k := by rw [wrap64_in (by omega) (by omega)]; omega
            have wi2 : IntKind.i64.wrap ((k : Int) + j) = (k + j : Nat) := by rw [wrap64_in (by omega) (by omega)]; omega
            have i1 := ia22 (b := m2.length + 1) (o := 0) (n := 2 * f.n - 1) (c := 2 * f.n - 1) (ex := true) (ix := (k + j : Nat)) (by omega) (by omega)
            have i2 := ia22 (b := m2.length + 1) (o := 0) (n := 2 * f.n - 1) (c := 2 * f.n - 1) (ex := true) (ix := (f.n + k : Nat)) (by omega) (by omega)
            simp only [Int.toNat_natCast, Nat.zero_add] at i1 i2
            have l1 := lc_ints hK.C (by omega) (o := k + j) (by simp; omega)
            have l2 := lc_ints hK.C (by omega) (o := f.n + k) (by simp; omega)
            have g1 : (rpart f.p f.mod c (f.n + k) j).getD (k + j) 0 = c.getD (k + j) 0 := by
              rw [List.getD_eq_getElem?_getD, rpart_get _ _ _ _ _ _ (by omega), if_neg (by omega)]; rfl
            have g2 : (rpart f.p f.mod c (f.n + k) j).getD (f.n + k) 0 = c.getD (f.n + k) 0 := by
              rw [List.getD_eq_getElem?_getD, rpart_get _ _ _ _ _ _ (by omega), if_neg (by omega)]; rfl
            rw [g1] at l1
            rw [g2] at l2
            obtain ⟨b', o', a1, a2⟩ := (hv.pre hK.pre).at (ix := j) (by omega) (by omega)
            rw [Int.toNat_natCast] at a2
            have d1 := hcd0 (k + j) (by omega)
            have d2 := hcd0 (f.n + k) (by omega)
            have d3 := hf.sh.dig j (by omega)
            have mb := mul_bd (a := f.p - c.getD (f.n + k) 0) (A := 256) (b := f.mod.getD j 0) (B := 256) (by omega) (by omega) d3.1 (by omega)
            have w4 : IntKind.i64.wrap (f.p - c.getD (f.n + k) 0) = f.p - c.getD (f.n + k) 0 := wrap64_in (by omega) (by omega)
            have w5 : IntKind.i64.wrap ((f.p - c.getD (f.n + k) 0) * f.mod.getD j 0) = (f.p - c.getD (f.n + k) 0) * f.mod.getD j 0 := wrap64_in (by omega) (by omega)
            have w6 : IntKind.i64.wrap (c.getD (k + j) 0 + (f.p - c.getD (f.n + k) 0) * f.mod.getD j 0) = c.getD (k + j) 0 + (f.p - c.getD (f.n + k) 0) * f.mod.getD j 0 := wrap64_in (by omega) (by omega)
            have r1 := bin_rem 3 (c.getD (k + j) 0 + (f.p - c.getD (f.n + k) 0) * f.mod.getD j 0) f.p T (by omega)
            rw [tmod_pos (by omega)] at r1
            have hst := sc_ints hK.C (o := k + j) (x := (c.getD (k + j) 0 + (f.p - c.getD (f.n + k) 0) * f.mod.getD j 0) % f.p) (by simp; omega)
            have hstep := rpart_step f.p f.mod c (f.n + k) j (by omega) (by omega) (by omega)
            rw [show f.n + k - f.mod.length + j = k + j by omega] at hstep
            rw [hstep] at hst
            simp [l115_19, r115_0, r115_1, r115_2, r115_3, r115_4, r115_5, r115_6, r115_7, r115_8, r115_9, r115_11, r115_13, r115_14, r115_15, r115_16, r115_17, r115_18, r115_20, r115_22, c115, hK.e3, hK.e9, f12, f13, c1, c2, c3, hjl, wi, wi2, i1, i2, l1, l2, a1, a2, w4, w5, w6, r1, hst, wj, -List.getD_eq_getElem?_getD, -Int.natCast_add]
            exact ⟨f.n - (j + 1), by omega, ⟨j + 1, hK.set (by simp) (by simp) (by simp) (by simp) hord (by simp) (rpart_Digs (by omega) hcd0 _ _), by simp [f12, -Int.natCast_add], by simp, by omega, rfl⟩⟩
          · have hjn : j = f.n := by omega
            subst hjn
            have wk : IntKind.i64.wrap (((f.n + k : Nat) : Int) - 1) = f.n + k - 1 := by rw [wrap64_in (by omega) (by omega)]; omega
            simp [l115_19, r115_0, r115_1, r115_2, r115_3, r115_4, r115_5, r115_6, r115_7, r115_8, r115_9, r115_11, r115_13, r115_14, r115_15, r115_16, r115_17, r115_18, r115_20, r115_22, c115, hK.e3, f12, f13, c2, wk, -Int.natCast_add]
            exact ⟨k, by omega, ⟨_, hK.env (by simp) (by simp) (by simp) (by simp), by simp, by omega, hcs⟩⟩
      · rw [show f.n + (f.n - 1) = 2 * f.n - 1 by omega]; exact hc
  · rw [ev, show lv (List.replicate (2 * f.n - 1) 0) = fun _ => 0 by funext j; simp [lv, List.getElem?_replicate]; split <;> rfl, apn_ext (k := 0) (k' := 2 * f.n - 1) _ (by omega) (fun _ _ _ => rfl)]; rfl
structure RiI (f : Fd) (vm : V) (x : Int) (m : Mem) (k : Nat) (e : Env) (m' : Mem) : Prop where
  d : ∃ y : Nat, e 1 = I x ∧ e 2 = .ptr m.length 0 ∧ e 5 = I y ∧ 1 ≤ y ∧ y ≤ f.q ∧ f.q - y = k ∧ Pre m m' ∧ At m' m.length [I f.p, I f.n, vm] 2 ∧ ∀ z : Nat, 1 ≤ z → z < y → f.F.mul x z ≠ 1
theorem rinv_wv {v : V} {f : Fd} {x : Int} {m : Mem} {Q : V → Mem → Prop} (hg : RF m v f) (hx : f.F.E x) (hQ : ∀ m', Pre m m' → Q (I (f.F.inv x)) m') : WV (DD 154 [v, I x] m) Q := by
  have hg' := hg
  obtain ⟨hf, vm, rfl, hv⟩ := hg
  have hqb := hf.qb
  rw [e154]
  refine WV_fin ?_
  simp [r154_0, r154_1, r154_2, r154_3, r154_4, r154_5, r154_7, c154, hv.cell]
  refine W_loop (RiI f vm x m) ?_ (f.q - 1) _ _ ⟨⟨1, by simp, by simp, by simp, by omega, by omega, rfl, List.prefix_append _ _, At.new1 _ _ _, fun z h1 h2 => by omega⟩⟩
  rintro k e m' ⟨⟨y, e1, e2, e5, hy1, hyq, hk, hpre, hA, hall⟩⟩
  have hpre1 : Pre m' (m' ++ [⟨[I f.p, I f.n, vm], 2⟩]) := List.prefix_append _ _
  have hA1 := Pre.at hpre1 hA
  have w1 : IntKind.i64.wrap ((y : Int) + 1) = y + 1 := wrap64_in (by omega) (by omega)
  simp [l154_6, r154_0, r154_1, r154_2, r154_3, r154_4, r154_5, r154_7, c154, e1, e2, e5, (box_la hA (m := m)).1]
  refine WR_bnd (rorder_wv hv.cell ?_)
  by_cases hlt : y < f.q
  · simp [hf.ord, hlt, e1, e2, e5, (box_la hA1 (m := m)).1]
    have hyE : f.F.E y := (hf.E y).2 (by omega)
    refine WR_bnd (rmul_wv (hg'.pre (hpre.trans hpre1)) hx hyE fun m2 hp2 => ?_)
    have hpre2 := hpre.trans (hpre1.trans hp2)
    by_cases h1 : f.F.mul x y = 1
    · simp [h1, e5]
      have := hQ m2 hpre2
      rwa [show f.F.inv x = y from invM_eq hf.pws.hp hf.pws.hn hyE h1] at this
    · simp [h1, e5, w1]
      refine ⟨f.q - (y + 1), by omega, ⟨y + 1, by simp [e1], by simp [e2], by simp, by omega, by omega, rfl, hpre2, Pre.at hp2 hA1, fun z h2 h3 => ?_⟩⟩
      by_cases e : z = y
      · subst e; exact h1
      · exact hall z h2 (by omega)
  · simp [hf.ord, hlt]
    have := hQ _ (hpre.trans hpre1)
    rwa [show f.F.inv x = 0 from invM_none (fun z hz h1 => by
      have hz' := (hf.E z).1 hz
      by_cases h0 : z = 0
      · subst h0
        have := hf.F.mul0r (x := x)
        have h1' : f.F.mul x 0 = 1 := h1
        omega
      · have := hall z.toNat (by omega) (by omega)
        rw [Int.toNat_of_nonneg hz'.1] at this
        exact this h1)] at this
end Go.Proofs.YtefjnnghfloddaaGreat.Abs
