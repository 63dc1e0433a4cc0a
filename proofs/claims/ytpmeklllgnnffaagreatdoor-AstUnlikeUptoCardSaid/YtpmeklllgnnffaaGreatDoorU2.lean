/- How a machine's value reads as an abstract one: the relation, and what keeps it. -/
import Derived.Test.YtpmeklllgnnffaaGreatDoorU1
import Derived.Laws.AppendOwn
import Derived.Deep.MidRow
set_option linter.unusedSimpArgs false
set_option linter.unusedVariables false

namespace Go.Abs
open Go

structure Hdr where
  addr : Option (Nat × Nat)
  cap : Nat
  size : Nat
  tip : Nat

structure Ghost where
  imm : Nat → Nat → Option Value
  box : Nat → Option Nat
  hdr : Nat → Option Hdr
  /- numbers that are held back -/
  res : Nat → Bool := fun _ => false
  /- blocks that stay as they are -/
  fix : Nat → Option Obj := fun _ => none

def adr (B off : Nat) : Addr := ⟨B, off, Option.none⟩

def addrOf : Option (Nat × Nat) → Option Addr
  | some (B, o) => some (adr B o)
  | none => none

structure Hdr.le (h h' : Hdr) : Prop where
  tip : h.tip ≤ h'.tip
  same : h.tip = h'.tip → h.addr = h'.addr ∧ h.cap = h'.cap
  size : 0 < h.tip → h.size = h'.size

def OwnOk (G : Ghost) (a : Option Addr) (xs : List V) (cap : Nat) : Own → Prop
  | .froz => True
  | .full => cap = xs.length ∧ ∃ q, a = addrOf q ∧ (q = none → cap = 0)
  | .own b => ∃ h, G.hdr b = some h ∧ xs.length ≤ h.tip ∧ (xs.length = h.tip → a = addrOf h.addr ∧ cap = h.cap) ∧ ∀ x ∈ xs, (vcells x).length = h.size

mutual
def Rep (G : Ghost) : V → Value → Prop
  | .undef, _ => True
  | .bool b, v => v = .bool b
  | .int k n, v => v = .int k n
  | .str s, v => ∃ z : ByteArray, v = .string z ∧ z.data.toList = s
  | .nil, v => v = .pointer none
  | .box b off, v => ∃ B, G.box b = some B ∧ v = .pointer (some (adr B off))
  | .ro cs, v => refsL cs = [] ∧ ∃ B off, v = .pointer (some (adr B off)) ∧ Reads G cs B off
  | .slice o xs, v => ∃ a cap, v = .slice a xs.length cap ∧ xs.length ≤ cap ∧ OwnOk G a xs cap o ∧ (∀ x ∈ xs, refs x = []) ∧
      (∃ s, ∀ x ∈ xs, (vcells x).length = s) ∧ (xs = [] ∨ ∃ B off, a = some (adr B off) ∧ ReadsE G xs B off)
  | .func f first cap, v => ∃ fs cs, v = .func (.func f) fs cs ∧ Reps G first fs.toList ∧ Reps G cap cs.toList
  | .nilfunc, v => v = .nilFunc
  | .iface t x, v => ∃ y, v = .iface t y ∧ Rep G x y
  | .niliface, v => v = .nilIface
  | .agg cs, v => ∃ vs, v = .agg vs ∧ Reps G cs vs.toList
  | .tup cs, v => ∃ vs, v = .tuple vs ∧ Reps G cs vs.toList
  | .tip _, v => ∃ b, v = .bool b
  | .win b off n, v => ∃ B cap, G.box b = some B ∧ n ≤ cap ∧ v = .slice (some (adr B off)) n cap
def Reads (G : Ghost) : List V → Nat → Nat → Prop
  | [], _, _ => True
  | x :: xs, B, o => (∃ v, G.imm B o = some v ∧ v.oneCell' = true ∧ Rep G x v) ∧ Reads G xs B (o + 1)
def ReadsE (G : Ghost) : List V → Nat → Nat → Prop
  | [], _, _ => True
  | .agg cs :: xs, B, o => Reads G cs B o ∧ ReadsE G xs B (o + cs.length)
  | x :: xs, B, o => (∃ v, G.imm B o = some v ∧ v.oneCell' = true ∧ Rep G x v) ∧ ReadsE G xs B (o + 1)
def Reps (G : Ghost) : List V → List Value → Prop
  | [], vs => vs = []
  | x :: xs, vs => ∃ v r, vs = v :: r ∧ Rep G x v ∧ Reps G xs r
end

variable {G G' : Ghost}

theorem Reads.append : ∀ (xs ys : List V) (B o : Nat), Reads G (xs ++ ys) B o ↔ Reads G xs B o ∧ Reads G ys B (o + xs.length)
  | [], ys, B, o => by simp [Reads]
  | x :: xs, ys, B, o => by
    simp only [List.cons_append, Reads, List.length_cons, Reads.append xs ys B (o + 1), and_assoc]
    rw [show o + 1 + xs.length = o + (xs.length + 1) by omega]

theorem readsE_cons (x : V) (xs : List V) (B o : Nat) : ReadsE G (x :: xs) B o ↔ Reads G (vcells x) B o ∧ ReadsE G xs B (o + (vcells x).length) := by
  cases x <;> simp [ReadsE, vcells, Reads]

theorem readsE_flat : ∀ (xs : List V) (B o : Nat), ReadsE G xs B o ↔ Reads G (xs.flatMap vcells) B o
  | [], B, o => by simp [ReadsE, Reads]
  | x :: xs, B, o => by rw [readsE_cons, List.flatMap_cons, Reads.append, readsE_flat xs]

theorem Reads.get : ∀ {cs : List V} {B o i : Nat} {x : V}, Reads G cs B o → cs[i]? = some x → ∃ v, G.imm B (o + i) = some v ∧ v.oneCell' = true ∧ Rep G x v
  | [], _, _, _, _, _, h => by simp at h
  | y :: ys, B, o, 0, x, h, hx => by simp at hx; subst hx; exact h.1
  | y :: ys, B, o, i + 1, x, h, hx => by
    have := Reads.get (i := i) h.2 (by simpa using hx)
    rwa [show o + 1 + i = o + (i + 1) by omega] at this

theorem Reads.drop {cs : List V} {B o n : Nat} (h : Reads G cs B o) (hn : n ≤ cs.length) : Reads G (cs.drop n) B (o + n) := by
  have := (Reads.append (cs.take n) (cs.drop n) B o).1 (by rwa [List.take_append_drop])
  rw [List.length_take, Nat.min_eq_left hn] at this
  exact this.2
theorem Reads.drop' {cs : List V} {B o n : Nat} (h : Reads G cs B o) : Reads G (cs.drop n) B (o + n) := by
  by_cases hn : n ≤ cs.length
  · exact h.drop hn
  · rw [List.drop_of_length_le (by omega)]; trivial
theorem Reads.take {cs : List V} {B o n : Nat} (h : Reads G cs B o) : Reads G (cs.take n) B o :=
  ((Reads.append (cs.take n) (cs.drop n) B o).1 (by rwa [List.take_append_drop])).1

theorem Reps.append : ∀ {xs ys : List V} {vs us : List Value}, Reps G xs vs → Reps G ys us → Reps G (xs ++ ys) (vs ++ us)
  | [], _, _, _, h, h' => by simp only [Reps] at h; subst h; exact h'
  | x :: xs, _, _, _, h, h' => by
    obtain ⟨v, r, rfl, h1, h2⟩ := h
    exact ⟨v, _, rfl, h1, Reps.append h2 h'⟩

theorem Reps.length : ∀ {xs : List V} {vs : List Value}, Reps G xs vs → xs.length = vs.length
  | [], _, h => by simp only [Reps] at h; subst h; rfl
  | x :: xs, _, h => by obtain ⟨v, r, rfl, h1, h2⟩ := h; simp [Reps.length h2]

theorem Reps.get : ∀ {xs : List V} {vs : List Value} {i : Nat} {x : V}, Reps G xs vs → xs[i]? = some x → ∃ v, vs[i]? = some v ∧ Rep G x v
  | [], _, _, _, _, h => by simp at h
  | y :: ys, _, 0, x, h, hx => by obtain ⟨v, r, rfl, h1, h2⟩ := h; simp at hx; subst hx; exact ⟨v, rfl, h1⟩
  | y :: ys, _, i + 1, x, h, hx => by
    obtain ⟨v, r, rfl, h1, h2⟩ := h
    obtain ⟨u, hu, hr⟩ := Reps.get (i := i) h2 (by simpa using hx)
    exact ⟨u, by simpa using hu, hr⟩

theorem Reps.of_get : ∀ {xs : List V} {vs : List Value}, xs.length = vs.length → (∀ (i : Nat) (x : V) (v : Value), xs[i]? = some x → vs[i]? = some v → Rep G x v) → Reps G xs vs
  | [], [], _, _ => rfl
  | x :: xs, v :: vs, hl, h => ⟨v, vs, rfl, h 0 x v rfl rfl, Reps.of_get (by simpa using hl) fun i x v hx hv => h (i + 1) x v (by simpa using hx) (by simpa using hv)⟩
  | [], _ :: _, hl, _ => by simp at hl
  | _ :: _, [], hl, _ => by simp at hl

theorem Reps.take {xs : List V} {vs : List Value} (h : Reps G xs vs) (n : Nat) : Reps G (xs.take n) (vs.take n) := by
  refine Reps.of_get (by simp [h.length]) fun i x v hx hv => ?_
  rw [List.getElem?_take] at hx hv
  split at hx
  · rename_i hi
    rw [if_pos hi] at hv
    obtain ⟨u, hu, hr⟩ := h.get hx
    rw [hu] at hv; cases hv; exact hr
  · cases hx
theorem Reps.drop {xs : List V} {vs : List Value} (h : Reps G xs vs) (n : Nat) : Reps G (xs.drop n) (vs.drop n) := by
  refine Reps.of_get (by simp [h.length]) fun i x v hx hv => ?_
  rw [List.getElem?_drop] at hx hv
  obtain ⟨u, hu, hr⟩ := h.get hx
  rw [hu] at hv; cases hv; exact hr
theorem Reps.getD {xs : List V} {vs : List Value} (h : Reps G xs vs) (i : Nat) (u : Value) : Rep G (xs.getD i .undef) (vs.getD i u) := by
  cases hx : xs[i]? with
  | none => simp [List.getD, hx, Rep]
  | some x => obtain ⟨v, hv, hr⟩ := h.get hx; simpa [List.getD, hx, hv] using hr
theorem Reps.set {xs : List V} {vs : List Value} (h : Reps G xs vs) (i : Nat) {x : V} {v : Value} (hr : Rep G x v) : Reps G (xs.set i x) (vs.set i v) := by
  refine Reps.of_get (by simp [h.length]) fun j y u hy hu => ?_
  rw [List.getElem?_set] at hy hu
  split at hy
  · rename_i hij
    rw [if_pos hij] at hu
    split at hy
    · split at hu
      · cases hy; cases hu; exact hr
      · cases hu
    · cases hy
  · rename_i hij
    rw [if_neg hij] at hu
    obtain ⟨w, hw, hr⟩ := h.get hy
    rw [hw] at hu; cases hu; exact hr

theorem refsL_append : ∀ (xs ys : List V), refsL (xs ++ ys) = refsL xs ++ refsL ys
  | [], _ => rfl
  | x :: xs, ys => by simp [refsL, refsL_append xs ys]

theorem refsL_nil_iff : ∀ {xs : List V}, refsL xs = [] ↔ ∀ x ∈ xs, refs x = []
  | [] => by simp [refsL]
  | x :: xs => by simp [refsL, refsL_nil_iff (xs := xs)]

theorem mem_refsL : ∀ {xs : List V} {b : Nat}, b ∈ refsL xs ↔ ∃ x ∈ xs, b ∈ refs x
  | [], b => by simp [refsL]
  | x :: xs, b => by simp [refsL, mem_refsL (xs := xs)]

theorem refs_vcells (x : V) : refsL (vcells x) = refs x := by cases x <;> simp [vcells, refs, refsL]

/- renaming leaves what has no boxes -/
mutual
theorem ren_id (ρ : Nat → Nat) : ∀ (x : V), (∀ b ∈ refs x, ρ b = b) → ren ρ x = x
  | .undef, _ => rfl
  | .bool _, _ => rfl
  | .int _ _, _ => rfl
  | .str _, _ => rfl
  | .nil, _ => rfl
  | .box b off, h => by simp [ren, h b (by simp [refs])]
  | .ro _, _ => rfl
  | .slice o xs, h => by cases o <;> simp [ren, renOwn]; rename_i b; exact h b (by simp [refs, ownRefs])
  | .func f first cap, h => by
    simp [ren, renL_id ρ first (fun b hb => h b (by simp [refs, hb])), renL_id ρ cap (fun b hb => h b (by simp [refs, hb]))]
  | .nilfunc, _ => rfl
  | .iface t v, h => by simp [ren, ren_id ρ v (fun b hb => h b (by simpa [refs] using hb))]
  | .niliface, _ => rfl
  | .agg cs, h => by simp [ren, renL_id ρ cs (fun b hb => h b (by simpa [refs] using hb))]
  | .tup cs, h => by simp [ren, renL_id ρ cs (fun b hb => h b (by simpa [refs] using hb))]
  | .tip _, _ => rfl
  | .win b off n, h => by simp [ren, h b (by simp [refs])]
theorem renL_id (ρ : Nat → Nat) : ∀ (xs : List V), (∀ b ∈ refsL xs, ρ b = b) → renL ρ xs = xs
  | [], _ => rfl
  | x :: xs, h => by
    simp [renL, ren_id ρ x (fun b hb => h b (by simp [refsL, hb])), renL_id ρ xs (fun b hb => h b (by simp [refsL, hb]))]
end

theorem renL_length (ρ : Nat → Nat) : ∀ (xs : List V), (renL ρ xs).length = xs.length
  | [] => rfl
  | _ :: xs => by simp [renL, renL_length ρ xs]
theorem renL_get (ρ : Nat → Nat) : ∀ (xs : List V) (i : Nat), (renL ρ xs)[i]? = (xs[i]?).map (ren ρ)
  | [], _ => by simp [renL]
  | x :: xs, 0 => by simp [renL]
  | x :: xs, i + 1 => by simp [renL, renL_get ρ xs i]
theorem renL_map (ρ : Nat → Nat) : ∀ (xs : List V), renL ρ xs = xs.map (ren ρ)
  | [] => rfl
  | x :: xs => by simp [renL, renL_map ρ xs]

/- from one ghost to another -/
structure Tr (G G' : Ghost) (ρ : Nat → Nat) (L : List Nat) : Prop where
  imm : ∀ B o v, G.imm B o = some v → G'.imm B o = some v
  box : ∀ b ∈ L, ∀ B, G.box b = some B → G'.box (ρ b) = some B
  hdr : ∀ b ∈ L, ∀ h, G.hdr b = some h → ∃ h', G'.hdr (ρ b) = some h' ∧ h.le h'

theorem Tr.mono {ρ : Nat → Nat} {L L' : List Nat} (h : Tr G G' ρ L) (hs : ∀ b ∈ L', b ∈ L) : Tr G G' ρ L' :=
  ⟨h.imm, fun b hb => h.box b (hs b hb), fun b hb => h.hdr b (hs b hb)⟩

theorem OwnOk.tr {ρ : Nat → Nat} {o : Own} (h : Tr G G' ρ (ownRefs o)) {a : Option Addr} {xs : List V} {cap : Nat} (hk : OwnOk G a xs cap o) : OwnOk G' a xs cap (renOwn ρ o) := by
  cases o with
  | froz => trivial
  | full => exact hk
  | own b =>
    obtain ⟨hd, h1, h2, h3, h0⟩ := hk
    obtain ⟨h', e1, e2⟩ := h.hdr b (by simp [ownRefs]) hd h1
    refine ⟨h', e1, Nat.le_trans h2 e2.tip, fun e => ?_, fun x hx => by
      have := List.length_pos_of_mem hx
      rw [h0 x hx, e2.size (by omega)]⟩
    have h4 : hd.tip = h'.tip := by have := e2.tip; omega
    obtain ⟨e3, e4⟩ := e2.same h4
    obtain ⟨e5, e6⟩ := h3 (by omega)
    exact ⟨by rw [e5, e3], by rw [e6, e4]⟩

mutual
theorem Rep.tr {ρ : Nat → Nat} : ∀ (x : V) (v : Value), Tr G G' ρ (refs x) → Rep G x v → Rep G' (ren ρ x) v
  | .undef, _, _, _ => trivial
  | .bool _, _, _, h => h
  | .int _ _, _, _, h => h
  | .str _, _, _, h => h
  | .nil, _, _, h => h
  | .box b off, v, t, h => by obtain ⟨B, h1, h2⟩ := h; exact ⟨B, t.box b (by simp [refs]) B h1, h2⟩
  | .ro cs, v, t, h => by
    obtain ⟨h0, B, off, h1, h2⟩ := h
    exact ⟨h0, B, off, h1, Reads.tr (ρ := ρ) cs B off (by rw [h0]; exact t) h0 h2⟩
  | .slice o xs, v, t, h => by
    obtain ⟨a, cap, h1, h2, h3, h4, h5, h6⟩ := h
    refine ⟨a, cap, h1, h2, h3.tr t, h4, h5, ?_⟩
    rcases h6 with h6 | ⟨B, off, h6, h7⟩
    · exact .inl h6
    · exact .inr ⟨B, off, h6, ReadsE.tr (ρ := ρ) xs B off (t.mono (by rw [refsL_nil_iff.2 h4]; simp)) (refsL_nil_iff.2 h4) h7⟩
  | .func f first cap, v, t, h => by
    obtain ⟨fs, cs, h1, h2, h3⟩ := h
    exact ⟨fs, cs, h1, Reps.tr first _ (t.mono (by intro b hb; simp [refs, hb])) h2, Reps.tr cap _ (t.mono (by intro b hb; simp [refs, hb])) h3⟩
  | .nilfunc, _, _, h => h
  | .iface _ x, v, t, h => by obtain ⟨y, h1, h2⟩ := h; exact ⟨y, h1, Rep.tr x y (t.mono (by intro b hb; simpa [refs] using hb)) h2⟩
  | .niliface, _, _, h => h
  | .agg cs, v, t, h => by obtain ⟨vs, h1, h2⟩ := h; exact ⟨vs, h1, Reps.tr cs _ (t.mono (by intro b hb; simpa [refs] using hb)) h2⟩
  | .tup cs, v, t, h => by obtain ⟨vs, h1, h2⟩ := h; exact ⟨vs, h1, Reps.tr cs _ (t.mono (by intro b hb; simpa [refs] using hb)) h2⟩
  | .tip _, _, _, h => h
  | .win b off n, v, t, h => by obtain ⟨B, cap, h1, h2, h3⟩ := h; exact ⟨B, cap, t.box b (by simp [refs]) B h1, h2, h3⟩
theorem Reads.tr {ρ : Nat → Nat} : ∀ (cs : List V) (B o : Nat), Tr G G' ρ (refsL cs) → refsL cs = [] → Reads G cs B o → Reads G' cs B o
  | [], _, _, _, _, _ => trivial
  | x :: xs, B, o, t, hn, h => by
    obtain ⟨⟨v, h1, h1', h2⟩, h3⟩ := h
    simp only [refsL, List.append_eq_nil_iff] at hn
    have hx := Rep.tr (ρ := ρ) x v (t.mono (by rw [hn.1]; simp)) h2
    rw [ren_id ρ x (by rw [hn.1]; simp)] at hx
    exact ⟨⟨v, t.imm _ _ _ h1, h1', hx⟩, Reads.tr xs B (o + 1) (t.mono (by rw [hn.2]; simp)) hn.2 h3⟩
theorem ReadsE.tr {ρ : Nat → Nat} : ∀ (cs : List V) (B o : Nat), Tr G G' ρ (refsL cs) → refsL cs = [] → ReadsE G cs B o → ReadsE G' cs B o
  | [], _, _, _, _, _ => trivial
  | .agg cs :: xs, B, o, t, hn, h => by
    simp only [refsL, List.append_eq_nil_iff] at hn
    simp only [refs] at hn
    exact ⟨Reads.tr cs B o (t.mono (by rw [hn.1]; simp)) hn.1 h.1, ReadsE.tr xs B _ (t.mono (by rw [hn.2]; simp)) hn.2 h.2⟩
  | x :: xs, B, o, t, hn, h => by
    simp only [refsL, List.append_eq_nil_iff] at hn
    by_cases hx : ∃ cs, x = .agg cs
    · obtain ⟨cs, rfl⟩ := hx
      simp only [refs] at hn
      rw [readsE_cons] at h ⊢
      simp only [vcells] at h ⊢
      exact ⟨Reads.tr cs B o (t.mono (by rw [hn.1]; simp)) hn.1 h.1, ReadsE.tr xs B _ (t.mono (by rw [hn.2]; simp)) hn.2 h.2⟩
    · have hv : vcells x = [x] := by cases x <;> simp_all [vcells]
      rw [readsE_cons] at h ⊢
      rw [hv] at h ⊢
      simp only [Reads, and_true] at h ⊢
      obtain ⟨⟨v, h1, h1', h2⟩, h3⟩ := h
      have hr := Rep.tr (ρ := ρ) x v (t.mono (by rw [hn.1]; simp)) h2
      rw [ren_id ρ x (by rw [hn.1]; simp)] at hr
      exact ⟨⟨v, t.imm _ _ _ h1, h1', hr⟩, ReadsE.tr xs B _ (t.mono (by rw [hn.2]; simp)) hn.2 h3⟩
theorem Reps.tr {ρ : Nat → Nat} : ∀ (cs : List V) (vs : List Value), Tr G G' ρ (refsL cs) → Reps G cs vs → Reps G' (renL ρ cs) vs
  | [], _, _, h => h
  | x :: xs, vs, t, h => by
    obtain ⟨v, r, h1, h2, h3⟩ := h
    exact ⟨v, r, h1, Rep.tr x v (t.mono (by intro b hb; simp [refsL, hb])) h2, Reps.tr xs r (t.mono (by intro b hb; simp [refsL, hb])) h3⟩
end

/- what grows -/
structure Le (G G' : Ghost) : Prop where
  imm : ∀ B o v, G.imm B o = some v → G'.imm B o = some v
  box : ∀ b B, G.box b = some B → G'.box b = some B
  hdr : ∀ b h, G.hdr b = some h → ∃ h', G'.hdr b = some h' ∧ h.le h'

theorem Hdr.le.refl (h : Hdr) : h.le h := ⟨Nat.le_refl _, fun _ => ⟨rfl, rfl⟩, fun _ => rfl⟩
theorem Hdr.le.trans {a b c : Hdr} (h : a.le b) (h' : b.le c) : a.le c :=
  ⟨Nat.le_trans h.tip h'.tip, fun e => by
    have h1 := h.tip; have h2 := h'.tip
    obtain ⟨e1, e2⟩ := h.same (by omega); obtain ⟨e3, e4⟩ := h'.same (by omega)
    exact ⟨e1.trans e3, e2.trans e4⟩, fun hp => (h.size hp).trans (h'.size (Nat.lt_of_lt_of_le hp h.tip))⟩
theorem Le.refl (G : Ghost) : Le G G := ⟨fun _ _ _ h => h, fun _ _ h => h, fun _ h e => ⟨h, e, .refl h⟩⟩
theorem Le.trans {A B C : Ghost} (h : Le A B) (h' : Le B C) : Le A C :=
  ⟨fun b o v e => h'.imm b o v (h.imm b o v e), fun b B e => h'.box b B (h.box b B e), fun b d e => by
    obtain ⟨d1, e1, l1⟩ := h.hdr b d e; obtain ⟨d2, e2, l2⟩ := h'.hdr b d1 e1; exact ⟨d2, e2, l1.trans l2⟩⟩
theorem Le.tr (h : Le G G') (L : List Nat) : Tr G G' id L := ⟨h.imm, fun b _ => h.box b, fun b _ => h.hdr b⟩

theorem Rep.le {x : V} {v : Value} (h : Le G G') (hr : Rep G x v) : Rep G' x v := by
  have := Rep.tr (ρ := id) x v (h.tr _) hr
  rwa [ren_id id x (fun _ _ => rfl)] at this
theorem Reps.le {xs : List V} {vs : List Value} (h : Le G G') (hr : Reps G xs vs) : Reps G' xs vs := by
  have := Reps.tr (ρ := id) xs vs (h.tr _) hr
  rwa [renL_id id xs (fun _ _ => rfl)] at this

/- without boxes only the reading counts -/
theorem Rep.pure {x : V} {v : Value} (hi : ∀ B o v, G.imm B o = some v → G'.imm B o = some v) (hn : refs x = []) (hr : Rep G x v) : Rep G' x v := by
  have := Rep.tr (G' := G') (ρ := id) x v ⟨hi, by simp [hn], by simp [hn]⟩ hr
  rwa [ren_id id x (fun _ _ => rfl)] at this

mutual
theorem Rep.frz : ∀ (x : V) (v : Value), Rep G x v → Rep G (frz x) v
  | .undef, _, _ => trivial
  | .bool _, _, h => h
  | .int _ _, _, h => h
  | .str _, _, h => h
  | .nil, _, h => h
  | .box _ _, _, h => h
  | .ro _, _, h => h
  | .slice _ _, _, h => by obtain ⟨a, cap, h1, h2, _, h4, h5, h6⟩ := h; exact ⟨a, cap, h1, h2, trivial, h4, h5, h6⟩
  | .func _ _ _, _, h => h
  | .nilfunc, _, h => h
  | .iface _ x, _, h => by obtain ⟨y, h1, h2⟩ := h; exact ⟨y, h1, Rep.frz x y h2⟩
  | .niliface, _, h => h
  | .agg cs, _, h => by obtain ⟨vs, h1, h2⟩ := h; exact ⟨vs, h1, Reps.frz cs _ h2⟩
  | .tup cs, _, h => by obtain ⟨vs, h1, h2⟩ := h; exact ⟨vs, h1, Reps.frz cs _ h2⟩
  | .tip _, _, h => h
  | .win _ _ _, _, h => h
theorem Reps.frz : ∀ (cs : List V) (vs : List Value), Reps G cs vs → Reps G (frzL cs) vs
  | [], _, h => h
  | x :: xs, _, h => by obtain ⟨v, r, h1, h2, h3⟩ := h; exact ⟨v, r, h1, Rep.frz x v h2, Reps.frz xs r h3⟩
end

/- the refs of a value that reads lie in the ghost -/
mutual
theorem Rep.dom : ∀ (x : V) (v : Value), Rep G x v → ∀ b ∈ refs x, (∃ B, G.box b = some B) ∨ ∃ h, G.hdr b = some h
  | .undef, _, _ => by simp [refs]
  | .bool _, _, _ => by simp [refs]
  | .int _ _, _, _ => by simp [refs]
  | .str _, _, _ => by simp [refs]
  | .nil, _, _ => by simp [refs]
  | .box b _, _, h => by obtain ⟨B, h1, _⟩ := h; simp only [refs, List.mem_singleton]; rintro _ rfl; exact .inl ⟨B, h1⟩
  | .ro _, _, _ => by simp [refs]
  | .slice o _, _, h => by
    obtain ⟨a, cap, _, _, h3, _⟩ := h
    cases o with
    | froz => simp [refs, ownRefs]
    | full => simp [refs, ownRefs]
    | own b => obtain ⟨d, h1, _⟩ := h3; simp only [refs, ownRefs, List.mem_singleton]; rintro _ rfl; exact .inr ⟨d, h1⟩
  | .func _ first cap, _, h => by
    obtain ⟨fs, cs, _, h2, h3⟩ := h
    intro b hb
    simp only [refs, List.mem_append] at hb
    exact hb.elim (Reps.dom first _ h2 b) (Reps.dom cap _ h3 b)
  | .nilfunc, _, _ => by simp [refs]
  | .iface _ x, _, h => by obtain ⟨y, _, h2⟩ := h; exact Rep.dom x y h2
  | .niliface, _, _ => by simp [refs]
  | .agg cs, _, h => by obtain ⟨vs, _, h2⟩ := h; exact Reps.dom cs _ h2
  | .tup cs, _, h => by obtain ⟨vs, _, h2⟩ := h; exact Reps.dom cs _ h2
  | .tip _, _, _ => by simp [refs]
  | .win b _ _, _, h => by obtain ⟨B, _, h1, _⟩ := h; simp only [refs, List.mem_singleton]; rintro _ rfl; exact .inl ⟨B, h1⟩
theorem Reps.dom : ∀ (cs : List V) (vs : List Value), Reps G cs vs → ∀ b ∈ refsL cs, (∃ B, G.box b = some B) ∨ ∃ h, G.hdr b = some h
  | [], _, _ => by simp [refsL]
  | x :: xs, _, h => by
    obtain ⟨v, r, _, h2, h3⟩ := h
    intro b hb
    simp only [refsL, List.mem_append] at hb
    exact hb.elim (Rep.dom x v h2 b) (Reps.dom xs r h3 b)
end

theorem Rep.cells {x : V} {v : Value} (h : Rep G x v) (hc : (vcells x).all cellOk = true) : Reps G (vcells x) v.cells.toList ∧ (∀ u ∈ v.cells, u.oneCell' = true ∨ ∃ cs, x = .agg cs) := by
  cases x <;> simp only [vcells, List.all_cons, List.all_nil, cellOk, Bool.and_true, Bool.false_eq_true] at hc
  case agg cs =>
    obtain ⟨vs, rfl, h2⟩ := h
    exact ⟨by simpa [vcells, Value.cells] using h2, fun u _ => .inr ⟨cs, rfl⟩⟩
  all_goals
    have hh := h
    simp only [Rep] at hh
    have hv : v.cells = #[v] ∧ v.oneCell' = true := by
      first
        | (subst hh; exact ⟨rfl, rfl⟩)
        | (obtain ⟨_, rfl, _⟩ := hh; exact ⟨rfl, rfl⟩)
        | (obtain ⟨_, _, rfl⟩ := hh; exact ⟨rfl, rfl⟩)
        | (obtain ⟨_, _, _, rfl, _⟩ := hh; exact ⟨rfl, rfl⟩)
        | (obtain ⟨_, _, rfl, _⟩ := hh; exact ⟨rfl, rfl⟩)
        | (obtain ⟨_, _, _, _, rfl⟩ := hh; exact ⟨rfl, rfl⟩)
    rw [hv.1]
    exact ⟨⟨v, [], rfl, h, rfl⟩, fun u hu => .inl (by simp at hu; subst hu; exact hv.2)⟩

/- one cell that reads as what a cell may hold is one cell -/
theorem Rep.one {x : V} {v : Value} (h : Rep G x v) (hc : cellOk x = true) : v.oneCell' = true ∧ v.cells = #[v] := by
  cases x <;> simp only [cellOk, Bool.false_eq_true] at hc
  all_goals
    have hh := h
    simp only [Rep] at hh
    first
      | (subst hh; exact ⟨rfl, rfl⟩)
      | (obtain ⟨_, rfl, _⟩ := hh; exact ⟨rfl, rfl⟩)
      | (obtain ⟨_, _, rfl⟩ := hh; exact ⟨rfl, rfl⟩)
      | (obtain ⟨_, _, _, rfl, _⟩ := hh; exact ⟨rfl, rfl⟩)
      | (obtain ⟨_, _, rfl, _⟩ := hh; exact ⟨rfl, rfl⟩)
      | (obtain ⟨_, _, _, _, rfl⟩ := hh; exact ⟨rfl, rfl⟩)

theorem Reps.one : ∀ {xs : List V} {vs : List Value}, Reps G xs vs → xs.all cellOk = true → ∀ u ∈ vs, u.oneCell' = true
  | [], _, h, _, u, hu => by simp only [Reps] at h; subst h; simp at hu
  | x :: xs, _, h, hc, u, hu => by
    obtain ⟨v, r, rfl, h2, h3⟩ := h
    simp only [List.all_cons, Bool.and_eq_true] at hc
    rcases List.mem_cons.1 hu with rfl | hu
    · exact (h2.one hc.1).1
    · exact Reps.one h3 hc.2 u hu

end Go.Abs

