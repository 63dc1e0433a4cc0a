/- How a machine's value reads as an abstract one: the relation, and what keeps it. -/
import Derived.Test.YtpmeklllgnnffaaGreatDoorR1
import Derived.Laws.AppendOwn
import Derived.Deep.MidRow
import Derived.Deep.AppendSrc
import Derived.Lib.ItoaNum
set_option linter.unusedSimpArgs false
set_option linter.unusedVariables false

namespace Go.Abs
open Go
structure Hdr where
  addr : Option (Nat × Nat)
  cap : Nat
  size : Nat
  tip : Nat
structure Ghost where
  imm : Nat → Nat → Option Value
  box : Nat → Option Nat
  hdr : Nat → Option Hdr
  res : Nat → Bool := fun _ => false
  fix : Nat → Option Obj := fun _ => none
def adr (B off : Nat) : Addr := ⟨B, off, Option.none⟩
def addrOf : Option (Nat × Nat) → Option Addr
  | some (B, o) => some (adr B o)
  | none => none
structure Hdr.le (h h' : Hdr) : Prop where
  tip : h.tip ≤ h'.tip
  same : h.tip = h'.tip → h.addr = h'.addr ∧ h.cap = h'.cap
  size : 0 < h.tip → h.size = h'.size
def OwnOk (G : Ghost) (a : Option Addr) (xs : List V) (cap : Nat) : Own → Prop
  | .froz => True
  | .full => cap = xs.length ∧ ∃ q, a = addrOf q ∧ (q = none → cap = 0)
  | .own b => ∃ h, G.hdr b = some h ∧ xs.length ≤ h.tip ∧ (xs.length = h.tip → a = addrOf h.addr ∧ cap = h.cap) ∧ ∀ x ∈ xs, (vcells x).length = h.size
mutual
def Rep (G : Ghost) : V → Value → Prop
  | .undef, _ => True
  | .bool b, v => v = .bool b
  | .int k n, v => v = .int k n
  | .str s, v => ∃ z : ByteArray, v = .string z ∧ z.data.toList = s
  | .nil, v => v = .pointer none
  | .box b off, v => ∃ B, G.box b = some B ∧ v = .pointer (some (adr B off))
  | .ro cs, v => refsL cs = [] ∧ ∃ B off, v = .pointer (some (adr B off)) ∧ Reads G cs B off
  | .slice o xs, v => ∃ a cap, v = .slice a xs.length cap ∧ xs.length ≤ cap ∧ OwnOk G a xs cap o ∧ (∀ x ∈ xs, refs x = []) ∧
      (∃ s, ∀ x ∈ xs, (vcells x).length = s) ∧ (xs = [] ∨ ∃ B off, a = some (adr B off) ∧ ReadsE G xs B off)
  | .func f first cap, v => ∃ fs cs, v = .func (.func f) fs cs ∧ Reps G first fs.toList ∧ Reps G cap cs.toList
  | .nilfunc, v => v = .nilFunc
  | .iface t x, v => ∃ y, v = .iface t y ∧ Rep G x y
  | .niliface, v => v = .nilIface
  | .agg cs, v => ∃ vs, v = .agg vs ∧ Reps G cs vs.toList
  | .tup cs, v => ∃ vs, v = .tuple vs ∧ Reps G cs vs.toList
  | .tip _, v => ∃ b, v = .bool b
  | .win b off n, v => ∃ B cap, G.box b = some B ∧ n ≤ cap ∧ v = .slice (some (adr B off)) n cap
def Reads (G : Ghost) : List V → Nat → Nat → Prop
  | [], _, _ => True
  | x :: xs, B, o => (∃ v, G.imm B o = some v ∧ v.oneCell' = true ∧ Rep G x v) ∧ Reads G xs B (o + 1)
def ReadsE (G : Ghost) : List V → Nat → Nat → Prop
  | [], _, _ => True
  | .agg cs :: xs, B, o => Reads G cs B o ∧ ReadsE G xs B (o + cs.length)
  | x :: xs, B, o => (∃ v, G.imm B o = some v ∧ v.oneCell' = true ∧ Rep G x v) ∧ ReadsE G xs B (o + 1)
def Reps (G : Ghost) : List V → List Value → Prop
  | [], vs => vs = []
  | x :: xs, vs => ∃ v r, vs = v :: r ∧ Rep G x v ∧ Reps G xs r
end
variable {G G' : Ghost}
theorem Reads.append : ∀ (xs ys : List V) (B o : Nat), Reads G (xs ++ ys) B o ↔ Reads G xs B o ∧ Reads G ys B (o + xs.length)
  | [], ys, B, o => by simp [Reads]
  | x :: xs, ys, B, o => by
    simp only [List.cons_append, Reads, List.length_cons, Reads.append xs ys B (o + 1), and_assoc]
    rw [show o + 1 + xs.length = o + (xs.length + 1) by omega]
theorem readsE_cons (x : V) (xs : List V) (B o : Nat) : ReadsE G (x :: xs) B o ↔ Reads G (vcells x) B o ∧ ReadsE G xs B (o + (vcells x).length) := by
  cases x <;> simp [ReadsE, vcells, Reads]
theorem readsE_flat : ∀ (xs : List V) (B o : Nat), ReadsE G xs B o ↔ Reads G (xs.flatMap vcells) B o
  | [], B, o => by simp [ReadsE, Reads]
  | x :: xs, B, o => by rw [readsE_cons, List.flatMap_cons, Reads.append, readsE_flat xs]
theorem Reads.get : ∀ {cs : List V} {B o i : Nat} {x : V}, Reads G cs B o → cs[i]? = some x → ∃ v, G.imm B (o + i) = some v ∧ v.oneCell' = true ∧ Rep G x v
  | [], _, _, _, _, _, h => by simp at h
  | y :: ys, B, o, 0, x, h, hx => by simp at hx; subst hx; exact h.1
  | y :: ys, B, o, i + 1, x, h, hx => by
    have := Reads.get (i := i) h.2 (by simpa using hx)
    rwa [show o + 1 + i = o + (i + 1) by omega] at this
theorem Reads.drop {cs : List V} {B o n : Nat} (h : Reads G cs B o) (hn : n ≤ cs.length) : Reads G (cs.drop n) B (o + n) := by
  have := (Reads.append (cs.take n) (cs.drop n) B o).1 (by rwa [List.take_append_drop])
  rw [List.length_take, Nat.min_eq_left hn] at this
  exact this.2
theorem Reads.drop' {cs : List V} {B o n : Nat} (h : Reads G cs B o) : Reads G (cs.drop n) B (o + n) := by
  by_cases hn : n ≤ cs.length
  · exact h.drop hn
  · rw [List.drop_of_length_le (by omega)]; trivial
theorem Reads.take {cs : List V} {B o n : Nat} (h : Reads G cs B o) : Reads G (cs.take n) B o :=
  ((Reads.append (cs.take n) (cs.drop n) B o).1 (by rwa [List.take_append_drop])).1
theorem Reps.append : ∀ {xs ys : List V} {vs us : List Value}, Reps G xs vs → Reps G ys us → Reps G (xs ++ ys) (vs ++ us)
  | [], _, _, _, h, h' => by simp only [Reps] at h; subst h; exact h'
  | x :: xs, _, _, _, h, h' => by
    obtain ⟨v, r, rfl, h1, h2⟩ := h
    exact ⟨v, _, rfl, h1, Reps.append h2 h'⟩
theorem Reps.length : ∀ {xs : List V} {vs : List Value}, Reps G xs vs → xs.length = vs.length
  | [], _, h => by simp only [Reps] at h; subst h; rfl
  | x :: xs, _, h => by obtain ⟨v, r, rfl, h1, h2⟩ := h; simp [Reps.length h2]
theorem Reps.get : ∀ {xs : List V} {vs : List Value} {i : Nat} {x : V}, Reps G xs vs → xs[i]? = some x → ∃ v, vs[i]? = some v ∧ Rep G x v
  | [], _, _, _, _, h => by simp at h
  | y :: ys, _, 0, x, h, hx => by obtain ⟨v, r, rfl, h1, h2⟩ := h; simp at hx; subst hx; exact ⟨v, rfl, h1⟩
  | y :: ys, _, i + 1, x, h, hx => by
    obtain ⟨v, r, rfl, h1, h2⟩ := h
    obtain ⟨u, hu, hr⟩ := Reps.get (i := i) h2 (by simpa using hx)
    exact ⟨u, by simpa using hu, hr⟩
theorem Reps.of_get : ∀ {xs : List V} {vs : List Value}, xs.length = vs.length → (∀ (i : Nat) (x : V) (v : Value), xs[i]? = some x → vs[i]? = some v → Rep G x v) → Reps G xs vs
  | [], [], _, _ => rfl
  | x :: xs, v :: vs, hl, h => ⟨v, vs, rfl, h 0 x v rfl rfl, Reps.of_get (by simpa using hl) fun i x v hx hv => h (i + 1) x v (by simpa using hx) (by simpa using hv)⟩
  | [], _ :: _, hl, _ => by simp at hl
  | _ :: _, [], hl, _ => by simp at hl
theorem Reps.take {xs : List V} {vs : List Value} (h : Reps G xs vs) (n : Nat) : Reps G (xs.take n) (vs.take n) := by
  refine Reps.of_get (by simp [h.length]) fun i x v hx hv => ?_
  rw [List.getElem?_take] at hx hv
  split at hx
  · rename_i hi
    rw [if_pos hi] at hv
    obtain ⟨u, hu, hr⟩ := h.get hx
    rw [hu] at hv; cases hv; exact hr
  · cases hx
theorem Reps.drop {xs : List V} {vs : List Value} (h : Reps G xs vs) (n : Nat) : Reps G (xs.drop n) (vs.drop n) := by
  refine Reps.of_get (by simp [h.length]) fun i x v hx hv => ?_
  rw [List.getElem?_drop] at hx hv
  obtain ⟨u, hu, hr⟩ := h.get hx
  rw [hu] at hv; cases hv; exact hr
theorem Reps.getD {xs : List V} {vs : List Value} (h : Reps G xs vs) (i : Nat) (u : Value) : Rep G (xs.getD i .undef) (vs.getD i u) := by
  cases hx : xs[i]? with
  | none => simp [List.getD, hx, Rep]
  | some x => obtain ⟨v, hv, hr⟩ := h.get hx; simpa [List.getD, hx, hv] using hr
theorem Reps.set {xs : List V} {vs : List Value} (h : Reps G xs vs) (i : Nat) {x : V} {v : Value} (hr : Rep G x v) : Reps G (xs.set i x) (vs.set i v) := by
  refine Reps.of_get (by simp [h.length]) fun j y u hy hu => ?_
  rw [List.getElem?_set] at hy hu
  split at hy
  · rename_i hij
    rw [if_pos hij] at hu
    split at hy
    · split at hu
      · cases hy; cases hu; exact hr
      · cases hu
    · cases hy
  · rename_i hij
    rw [if_neg hij] at hu
    obtain ⟨w, hw, hr⟩ := h.get hy
    rw [hw] at hu; cases hu; exact hr
theorem refsL_append : ∀ (xs ys : List V), refsL (xs ++ ys) = refsL xs ++ refsL ys
  | [], _ => rfl
  | x :: xs, ys => by simp [refsL, refsL_append xs ys]
theorem refsL_nil_iff : ∀ {xs : List V}, refsL xs = [] ↔ ∀ x ∈ xs, refs x = []
  | [] => by simp [refsL]
  | x :: xs => by simp [refsL, refsL_nil_iff (xs := xs)]
theorem refs_vcells (x : V) : refsL (vcells x) = refs x := by cases x <;> simp [vcells, refs, refsL]
mutual
theorem ren_id (ρ : Nat → Nat) : ∀ (x : V), (∀ b ∈ refs x, ρ b = b) → ren ρ x = x
  | .undef, _ => rfl
  | .bool _, _ => rfl
  | .int _ _, _ => rfl
  | .str _, _ => rfl
  | .nil, _ => rfl
  | .box b off, h => by simp [ren, h b (by simp [refs])]
  | .ro _, _ => rfl
  | .slice o xs, h => by cases o <;> simp [ren, renOwn]; rename_i b; exact h b (by simp [refs, ownRefs])
  | .func f first cap, h => by
    simp [ren, renL_id ρ first (fun b hb => h b (by simp [refs, hb])), renL_id ρ cap (fun b hb => h b (by simp [refs, hb]))]
  | .nilfunc, _ => rfl
  | .iface t v, h => by simp [ren, ren_id ρ v (fun b hb => h b (by simpa [refs] using hb))]
  | .niliface, _ => rfl
  | .agg cs, h => by simp [ren, renL_id ρ cs (fun b hb => h b (by simpa [refs] using hb))]
  | .tup cs, h => by simp [ren, renL_id ρ cs (fun b hb => h b (by simpa [refs] using hb))]
  | .tip _, _ => rfl
  | .win b off n, h => by simp [ren, h b (by simp [refs])]
theorem renL_id (ρ : Nat → Nat) : ∀ (xs : List V), (∀ b ∈ refsL xs, ρ b = b) → renL ρ xs = xs
  | [], _ => rfl
  | x :: xs, h => by
    simp [renL, ren_id ρ x (fun b hb => h b (by simp [refsL, hb])), renL_id ρ xs (fun b hb => h b (by simp [refsL, hb]))]
end
theorem renL_length (ρ : Nat → Nat) : ∀ (xs : List V), (renL ρ xs).length = xs.length
  | [] => rfl
  | _ :: xs => by simp [renL, renL_length ρ xs]
structure Tr (G G' : Ghost) (ρ : Nat → Nat) (L : List Nat) : Prop where
  imm : ∀ B o v, G.imm B o = some v → G'.imm B o = some v
  box : ∀ b ∈ L, ∀ B, G.box b = some B → G'.box (ρ b) = some B
  hdr : ∀ b ∈ L, ∀ h, G.hdr b = some h → ∃ h', G'.hdr (ρ b) = some h' ∧ h.le h'
theorem Tr.mono {ρ : Nat → Nat} {L L' : List Nat} (h : Tr G G' ρ L) (hs : ∀ b ∈ L', b ∈ L) : Tr G G' ρ L' :=
  ⟨h.imm, fun b hb => h.box b (hs b hb), fun b hb => h.hdr b (hs b hb)⟩
theorem OwnOk.tr {ρ : Nat → Nat} {o : Own} (h : Tr G G' ρ (ownRefs o)) {a : Option Addr} {xs : List V} {cap : Nat} (hk : OwnOk G a xs cap o) : OwnOk G' a xs cap (renOwn ρ o) := by
  cases o with
  | froz => trivial
  | full => exact hk
  | own b =>
    obtain ⟨hd, h1, h2, h3, h0⟩ := hk
    obtain ⟨h', e1, e2⟩ := h.hdr b (by simp [ownRefs]) hd h1
    refine ⟨h', e1, Nat.le_trans h2 e2.tip, fun e => ?_, fun x hx => by
      have := List.length_pos_of_mem hx
      rw [h0 x hx, e2.size (by omega)]⟩
    have h4 : hd.tip = h'.tip := by have := e2.tip; omega
    obtain ⟨e3, e4⟩ := e2.same h4
    obtain ⟨e5, e6⟩ := h3 (by omega)
    exact ⟨by rw [e5, e3], by rw [e6, e4]⟩
mutual
theorem Rep.tr {ρ : Nat → Nat} : ∀ (x : V) (v : Value), Tr G G' ρ (refs x) → Rep G x v → Rep G' (ren ρ x) v
  | .undef, _, _, _ => trivial
  | .bool _, _, _, h => h
  | .int _ _, _, _, h => h
  | .str _, _, _, h => h
  | .nil, _, _, h => h
  | .box b off, v, t, h => by obtain ⟨B, h1, h2⟩ := h; exact ⟨B, t.box b (by simp [refs]) B h1, h2⟩
  | .ro cs, v, t, h => by
    obtain ⟨h0, B, off, h1, h2⟩ := h
    exact ⟨h0, B, off, h1, Reads.tr (ρ := ρ) cs B off (by rw [h0]; exact t) h0 h2⟩
  | .slice o xs, v, t, h => by
    obtain ⟨a, cap, h1, h2, h3, h4, h5, h6⟩ := h
    refine ⟨a, cap, h1, h2, h3.tr t, h4, h5, ?_⟩
    rcases h6 with h6 | ⟨B, off, h6, h7⟩
    · exact .inl h6
    · exact .inr ⟨B, off, h6, ReadsE.tr (ρ := ρ) xs B off (t.mono (by rw [refsL_nil_iff.2 h4]; simp)) (refsL_nil_iff.2 h4) h7⟩
  | .func f first cap, v, t, h => by
    obtain ⟨fs, cs, h1, h2, h3⟩ := h
    exact ⟨fs, cs, h1, Reps.tr first _ (t.mono (by intro b hb; simp [refs, hb])) h2, Reps.tr cap _ (t.mono (by intro b hb; simp [refs, hb])) h3⟩
  | .nilfunc, _, _, h => h
  | .iface _ x, v, t, h => by obtain ⟨y, h1, h2⟩ := h; exact ⟨y, h1, Rep.tr x y (t.mono (by intro b hb; simpa [refs] using hb)) h2⟩
  | .niliface, _, _, h => h
  | .agg cs, v, t, h => by obtain ⟨vs, h1, h2⟩ := h; exact ⟨vs, h1, Reps.tr cs _ (t.mono (by intro b hb; simpa [refs] using hb)) h2⟩
  | .tup cs, v, t, h => by obtain ⟨vs, h1, h2⟩ := h; exact ⟨vs, h1, Reps.tr cs _ (t.mono (by intro b hb; simpa [refs] using hb)) h2⟩
  | .tip _, _, _, h => h
  | .win b off n, v, t, h => by obtain ⟨B, cap, h1, h2, h3⟩ := h; exact ⟨B, cap, t.box b (by simp [refs]) B h1, h2, h3⟩
theorem Reads.tr {ρ : Nat → Nat} : ∀ (cs : List V) (B o : Nat), Tr G G' ρ (refsL cs) → refsL cs = [] → Reads G cs B o → Reads G' cs B o
  | [], _, _, _, _, _ => trivial
  | x :: xs, B, o, t, hn, h => by
    obtain ⟨⟨v, h1, h1', h2⟩, h3⟩ := h
    simp only [refsL, List.append_eq_nil_iff] at hn
    have hx := Rep.tr (ρ := ρ) x v (t.mono (by rw [hn.1]; simp)) h2
    rw [ren_id ρ x (by rw [hn.1]; simp)] at hx
    exact ⟨⟨v, t.imm _ _ _ h1, h1', hx⟩, Reads.tr xs B (o + 1) (t.mono (by rw [hn.2]; simp)) hn.2 h3⟩
theorem ReadsE.tr {ρ : Nat → Nat} : ∀ (cs : List V) (B o : Nat), Tr G G' ρ (refsL cs) → refsL cs = [] → ReadsE G cs B o → ReadsE G' cs B o
  | [], _, _, _, _, _ => trivial
  | .agg cs :: xs, B, o, t, hn, h => by
    simp only [refsL, List.append_eq_nil_iff] at hn
    simp only [refs] at hn
    exact ⟨Reads.tr cs B o (t.mono (by rw [hn.1]; simp)) hn.1 h.1, ReadsE.tr xs B _ (t.mono (by rw [hn.2]; simp)) hn.2 h.2⟩
  | x :: xs, B, o, t, hn, h => by
    simp only [refsL, List.append_eq_nil_iff] at hn
    by_cases hx : ∃ cs, x = .agg cs
    · obtain ⟨cs, rfl⟩ := hx
      simp only [refs] at hn
      rw [readsE_cons] at h ⊢
      simp only [vcells] at h ⊢
      exact ⟨Reads.tr cs B o (t.mono (by rw [hn.1]; simp)) hn.1 h.1, ReadsE.tr xs B _ (t.mono (by rw [hn.2]; simp)) hn.2 h.2⟩
    · have hv : vcells x = [x] := by cases x <;> simp_all [vcells]
      rw [readsE_cons] at h ⊢
      rw [hv] at h ⊢
      simp only [Reads, and_true] at h ⊢
      obtain ⟨⟨v, h1, h1', h2⟩, h3⟩ := h
      have hr := Rep.tr (ρ := ρ) x v (t.mono (by rw [hn.1]; simp)) h2
      rw [ren_id ρ x (by rw [hn.1]; simp)] at hr
      exact ⟨⟨v, t.imm _ _ _ h1, h1', hr⟩, ReadsE.tr xs B _ (t.mono (by rw [hn.2]; simp)) hn.2 h3⟩
theorem Reps.tr {ρ : Nat → Nat} : ∀ (cs : List V) (vs : List Value), Tr G G' ρ (refsL cs) → Reps G cs vs → Reps G' (renL ρ cs) vs
  | [], _, _, h => h
  | x :: xs, vs, t, h => by
    obtain ⟨v, r, h1, h2, h3⟩ := h
    exact ⟨v, r, h1, Rep.tr x v (t.mono (by intro b hb; simp [refsL, hb])) h2, Reps.tr xs r (t.mono (by intro b hb; simp [refsL, hb])) h3⟩
end
structure Le (G G' : Ghost) : Prop where
  imm : ∀ B o v, G.imm B o = some v → G'.imm B o = some v
  box : ∀ b B, G.box b = some B → G'.box b = some B
  hdr : ∀ b h, G.hdr b = some h → ∃ h', G'.hdr b = some h' ∧ h.le h'
theorem Hdr.le.refl (h : Hdr) : h.le h := ⟨Nat.le_refl _, fun _ => ⟨rfl, rfl⟩, fun _ => rfl⟩
theorem Hdr.le.trans {a b c : Hdr} (h : a.le b) (h' : b.le c) : a.le c :=
  ⟨Nat.le_trans h.tip h'.tip, fun e => by
    have h1 := h.tip; have h2 := h'.tip
    obtain ⟨e1, e2⟩ := h.same (by omega); obtain ⟨e3, e4⟩ := h'.same (by omega)
    exact ⟨e1.trans e3, e2.trans e4⟩, fun hp => (h.size hp).trans (h'.size (Nat.lt_of_lt_of_le hp h.tip))⟩
theorem Le.refl (G : Ghost) : Le G G := ⟨fun _ _ _ h => h, fun _ _ h => h, fun _ h e => ⟨h, e, .refl h⟩⟩
theorem Le.trans {A B C : Ghost} (h : Le A B) (h' : Le B C) : Le A C :=
  ⟨fun b o v e => h'.imm b o v (h.imm b o v e), fun b B e => h'.box b B (h.box b B e), fun b d e => by
    obtain ⟨d1, e1, l1⟩ := h.hdr b d e; obtain ⟨d2, e2, l2⟩ := h'.hdr b d1 e1; exact ⟨d2, e2, l1.trans l2⟩⟩
theorem Le.tr (h : Le G G') (L : List Nat) : Tr G G' id L := ⟨h.imm, fun b _ => h.box b, fun b _ => h.hdr b⟩
theorem Rep.le {x : V} {v : Value} (h : Le G G') (hr : Rep G x v) : Rep G' x v := by
  have := Rep.tr (ρ := id) x v (h.tr _) hr
  rwa [ren_id id x (fun _ _ => rfl)] at this
theorem Reps.le {xs : List V} {vs : List Value} (h : Le G G') (hr : Reps G xs vs) : Reps G' xs vs := by
  have := Reps.tr (ρ := id) xs vs (h.tr _) hr
  rwa [renL_id id xs (fun _ _ => rfl)] at this
theorem Rep.pure {x : V} {v : Value} (hi : ∀ B o v, G.imm B o = some v → G'.imm B o = some v) (hn : refs x = []) (hr : Rep G x v) : Rep G' x v := by
  have := Rep.tr (G' := G') (ρ := id) x v ⟨hi, by simp [hn], by simp [hn]⟩ hr
  rwa [ren_id id x (fun _ _ => rfl)] at this
mutual
theorem Rep.frz : ∀ (x : V) (v : Value), Rep G x v → Rep G (frz x) v
  | .undef, _, _ => trivial
  | .bool _, _, h => h
  | .int _ _, _, h => h
  | .str _, _, h => h
  | .nil, _, h => h
  | .box _ _, _, h => h
  | .ro _, _, h => h
  | .slice _ _, _, h => by obtain ⟨a, cap, h1, h2, _, h4, h5, h6⟩ := h; exact ⟨a, cap, h1, h2, trivial, h4, h5, h6⟩
  | .func _ _ _, _, h => h
  | .nilfunc, _, h => h
  | .iface _ x, _, h => by obtain ⟨y, h1, h2⟩ := h; exact ⟨y, h1, Rep.frz x y h2⟩
  | .niliface, _, h => h
  | .agg cs, _, h => by obtain ⟨vs, h1, h2⟩ := h; exact ⟨vs, h1, Reps.frz cs _ h2⟩
  | .tup cs, _, h => by obtain ⟨vs, h1, h2⟩ := h; exact ⟨vs, h1, Reps.frz cs _ h2⟩
  | .tip _, _, h => h
  | .win _ _ _, _, h => h
theorem Reps.frz : ∀ (cs : List V) (vs : List Value), Reps G cs vs → Reps G (frzL cs) vs
  | [], _, h => h
  | x :: xs, _, h => by obtain ⟨v, r, h1, h2, h3⟩ := h; exact ⟨v, r, h1, Rep.frz x v h2, Reps.frz xs r h3⟩
end
mutual
theorem Rep.dom : ∀ (x : V) (v : Value), Rep G x v → ∀ b ∈ refs x, (∃ B, G.box b = some B) ∨ ∃ h, G.hdr b = some h
  | .undef, _, _ => by simp [refs]
  | .bool _, _, _ => by simp [refs]
  | .int _ _, _, _ => by simp [refs]
  | .str _, _, _ => by simp [refs]
  | .nil, _, _ => by simp [refs]
  | .box b _, _, h => by obtain ⟨B, h1, _⟩ := h; simp only [refs, List.mem_singleton]; rintro _ rfl; exact .inl ⟨B, h1⟩
  | .ro _, _, _ => by simp [refs]
  | .slice o _, _, h => by
    obtain ⟨a, cap, _, _, h3, _⟩ := h
    cases o with
    | froz => simp [refs, ownRefs]
    | full => simp [refs, ownRefs]
    | own b => obtain ⟨d, h1, _⟩ := h3; simp only [refs, ownRefs, List.mem_singleton]; rintro _ rfl; exact .inr ⟨d, h1⟩
  | .func _ first cap, _, h => by
    obtain ⟨fs, cs, _, h2, h3⟩ := h
    intro b hb
    simp only [refs, List.mem_append] at hb
    exact hb.elim (Reps.dom first _ h2 b) (Reps.dom cap _ h3 b)
  | .nilfunc, _, _ => by simp [refs]
  | .iface _ x, _, h => by obtain ⟨y, _, h2⟩ := h; exact Rep.dom x y h2
  | .niliface, _, _ => by simp [refs]
  | .agg cs, _, h => by obtain ⟨vs, _, h2⟩ := h; exact Reps.dom cs _ h2
  | .tup cs, _, h => by obtain ⟨vs, _, h2⟩ := h; exact Reps.dom cs _ h2
  | .tip _, _, _ => by simp [refs]
  | .win b _ _, _, h => by obtain ⟨B, _, h1, _⟩ := h; simp only [refs, List.mem_singleton]; rintro _ rfl; exact .inl ⟨B, h1⟩
theorem Reps.dom : ∀ (cs : List V) (vs : List Value), Reps G cs vs → ∀ b ∈ refsL cs, (∃ B, G.box b = some B) ∨ ∃ h, G.hdr b = some h
  | [], _, _ => by simp [refsL]
  | x :: xs, _, h => by
    obtain ⟨v, r, _, h2, h3⟩ := h
    intro b hb
    simp only [refsL, List.mem_append] at hb
    exact hb.elim (Rep.dom x v h2 b) (Reps.dom xs r h3 b)
end
theorem Rep.cells {x : V} {v : Value} (h : Rep G x v) (hc : (vcells x).all cellOk = true) : Reps G (vcells x) v.cells.toList ∧ (∀ u ∈ v.cells, u.oneCell' = true ∨ ∃ cs, x = .agg cs) := by
  cases x <;> simp only [vcells, List.all_cons, List.all_nil, cellOk, Bool.and_true, Bool.false_eq_true] at hc
  case agg cs =>
    obtain ⟨vs, rfl, h2⟩ := h
    exact ⟨by simpa [vcells, Value.cells] using h2, fun u _ => .inr ⟨cs, rfl⟩⟩
  all_goals
    have hh := h
    simp only [Rep] at hh
    have hv : v.cells = #[v] ∧ v.oneCell' = true := by
      first
        | (subst hh; exact ⟨rfl, rfl⟩)
        | (obtain ⟨_, rfl, _⟩ := hh; exact ⟨rfl, rfl⟩)
        | (obtain ⟨_, _, rfl⟩ := hh; exact ⟨rfl, rfl⟩)
        | (obtain ⟨_, _, _, rfl, _⟩ := hh; exact ⟨rfl, rfl⟩)
        | (obtain ⟨_, _, rfl, _⟩ := hh; exact ⟨rfl, rfl⟩)
        | (obtain ⟨_, _, _, _, rfl⟩ := hh; exact ⟨rfl, rfl⟩)
    rw [hv.1]
    exact ⟨⟨v, [], rfl, h, rfl⟩, fun u hu => .inl (by simp at hu; subst hu; exact hv.2)⟩
theorem Rep.one {x : V} {v : Value} (h : Rep G x v) (hc : cellOk x = true) : v.oneCell' = true ∧ v.cells = #[v] := by
  cases x <;> simp only [cellOk, Bool.false_eq_true] at hc
  all_goals
    have hh := h
    simp only [Rep] at hh
    first
      | (subst hh; exact ⟨rfl, rfl⟩)
      | (obtain ⟨_, rfl, _⟩ := hh; exact ⟨rfl, rfl⟩)
      | (obtain ⟨_, _, rfl⟩ := hh; exact ⟨rfl, rfl⟩)
      | (obtain ⟨_, _, _, rfl, _⟩ := hh; exact ⟨rfl, rfl⟩)
      | (obtain ⟨_, _, rfl, _⟩ := hh; exact ⟨rfl, rfl⟩)
      | (obtain ⟨_, _, _, _, rfl⟩ := hh; exact ⟨rfl, rfl⟩)
theorem Reps.one : ∀ {xs : List V} {vs : List Value}, Reps G xs vs → xs.all cellOk = true → ∀ u ∈ vs, u.oneCell' = true
  | [], _, h, _, u, hu => by simp only [Reps] at h; subst h; simp at hu
  | x :: xs, _, h, hc, u, hu => by
    obtain ⟨v, r, rfl, h2, h3⟩ := h
    simp only [List.all_cons, Bool.and_eq_true] at hc
    rcases List.mem_cons.1 hu with rfl | hu
    · exact (h2.one hc.1).1
    · exact Reps.one h3 hc.2 u hu
end Go.Abs
namespace Go.Abs
open Go
structure TipOk (G : Ghost) (st : St) (W : World) (b : Nat) (h : Hdr) : Prop where
  st : st[b]? = some [.tip h.tip]
  nobox : G.box b = none
  le : h.tip ≤ h.cap
  none : h.addr = none → h.cap = 0
  pos : h.tip < h.cap → 0 < h.tip
  room : h.tip < h.cap → ∃ B c T, h.addr = some (B, 0) ∧ W.heap[B]? = some (.cells c T (0, 0)) ∧ h.cap * h.size ≤ c.size ∧
    (∀ o, h.tip * h.size ≤ o → G.imm B o = Option.none) ∧ (∀ b', G.box b' ≠ some B)
structure BoxOk (G : Ghost) (st : St) (W : World) (b B : Nat) : Prop where
  st : ∃ cs c T, st[b]? = some cs ∧ W.heap[B]? = some (.cells c T (0, 0)) ∧ Reps G cs c.toList
  imm : ∀ o, G.imm B o = none
def baseOk (imm : Nat → Nat → Option Value) (fix : Nat → Option Obj) : Prop := (∃ m : Int, imm 1 0 = some (.int .i64 m)) ∧ (∃ ev, imm 6 0 = some ev ∧ (ev = .nilIface ∨ ∃ te pe, ev = .iface te pe)) ∧ ∃ g T f, g = 2 ∧ fix g = some (.cells (Go.Lib.pow10Tab.map fun z => Value.int .u64 z).toArray T f)
theorem baseOk_mono {f g : Nat → Nat → Option Value} {fix : Nat → Option Obj} (h : ∀ B o v, f B o = some v → g B o = some v) : baseOk f fix → baseOk g fix := fun q => ⟨q.1.imp fun _ e => h _ _ _ e, q.2.1.imp fun _ e => ⟨h _ _ _ e.1, e.2⟩, q.2.2⟩
structure Sim0 (G : Ghost) (st : St) (W : World) : Prop where
  imm : ∀ B o v, G.imm B o = some v → ∃ c T f, W.heap[B]? = some (.cells c T f) ∧ c[o]? = some v
  dom : ∀ b, st.length ≤ b → G.box b = none ∧ G.hdr b = none
  box : ∀ b B, G.box b = some B → BoxOk G st W b B
  inj : ∀ b b' B, G.box b = some B → G.box b' = some B → b = b'
  tip : ∀ b h, G.hdr b = some h → TipOk G st W b h
  tinj : ∀ b b' h h', G.hdr b = some h → G.hdr b' = some h' → h.tip < h.cap → h'.tip < h'.cap → h.addr = h'.addr → b = b'
  base : baseOk G.imm G.fix
  res : ∀ b, G.res b = true → b < st.length ∧ G.box b = none ∧ G.hdr b = none
def TB (G : Ghost) (B : Nat) : Prop := (∃ b, G.box b = some B) ∨ ∃ b h, G.hdr b = some h ∧ h.tip < h.cap ∧ h.addr = some (B, 0)
structure Sim (G : Ghost) (st : St) (W : World) : Prop extends Sim0 G st W where
  fix : ∀ B o, G.fix B = some o → W.heap[B]? = some o ∧ ¬ TB G B
structure Ext (G : Ghost) (W : World) (G' : Ghost) (W' : World) : Prop where
  imm : ∀ B o v, G.imm B o = some v → G'.imm B o = some v
  size : W.heap.size ≤ W'.heap.size
  keep : ∀ B, B < W.heap.size → ¬ TB G B → W'.heap[B]? = W.heap[B]?
  immK : ∀ B, B < W.heap.size → ¬ TB G B → ∀ o, G'.imm B o = G.imm B o
  tb : ∀ B, B < W.heap.size → TB G' B → TB G B
  env : W'.os = W.os ∧ W'.tape = W.tape ∧ W'.output = W.output
  fix : G'.fix = G.fix
structure Good (G : Ghost) (W : World) (G' : Ghost) (st' : St) (W' : World) : Prop where
  sim : Sim G' st' W'
  ext : Ext G W G' W'
  le : Le G G'
  res : ∀ b, G.res b = true → G'.res b = true
theorem Ext.refl (G : Ghost) (W : World) : Ext G W G W := ⟨fun _ _ _ h => h, Nat.le_refl _, fun _ _ _ => rfl, fun _ _ _ _ => rfl, fun _ _ h => h, ⟨rfl, rfl, rfl⟩, rfl⟩
theorem Ext.trans {A B C : Ghost} {U V W : World} (h : Ext A U B V) (h' : Ext B V C W) : Ext A U C W :=
  ⟨fun b o v e => h'.imm b o v (h.imm b o v e), Nat.le_trans h.size h'.size,
   fun b hb hn => (h'.keep b (Nat.lt_of_lt_of_le hb h.size) (fun t => hn (h.tb b hb t))).trans (h.keep b hb hn),
   fun b hb hn o => (h'.immK b (Nat.lt_of_lt_of_le hb h.size) (fun t => hn (h.tb b hb t)) o).trans (h.immK b hb hn o),
   fun b hb t => h.tb b hb (h'.tb b (Nat.lt_of_lt_of_le hb h.size) t), ⟨h'.env.1.trans h.env.1, h'.env.2.1.trans h.env.2.1, h'.env.2.2.trans h.env.2.2⟩, h'.fix.trans h.fix⟩
theorem Good.refl {G : Ghost} {st : St} {W : World} (h : Sim G st W) : Good G W G st W := ⟨h, .refl _ _, .refl _, fun _ h => h⟩
theorem Good.trans {A B C : Ghost} {U V W : World} {s t : St} (h : Good A U B s V) (h' : Good B V C t W) : Good A U C t W :=
  ⟨h'.sim, h.ext.trans h'.ext, h.le.trans h'.le, fun b hb => h'.res b (h.res b hb)⟩
variable {G : Ghost} {st : St} {W : World}
theorem Sim.fixE (h : Sim G st W) {G' : Ghost} {W' : World} (e : Ext G W G' W') : ∀ B o, G'.fix B = some o → W'.heap[B]? = some o ∧ ¬ TB G' B := fun B o hb => by
  rw [e.fix] at hb
  obtain ⟨h1, h2⟩ := h.fix B o hb
  have hlt := (Array.getElem?_eq_some_iff.1 h1).1
  exact ⟨by rw [e.keep B hlt h2]; exact h1, fun t => h2 (e.tb B hlt t)⟩
theorem Sim.to (h : Sim G st W) {G' : Ghost} {st' : St} {W' : World} (s : Sim0 G' st' W') (e : Ext G W G' W') : Sim G' st' W' := ⟨s, h.fixE e⟩
theorem mkGood (h : Sim G st W) {G' : Ghost} {st' : St} {W' : World} (s : Sim0 G' st' W') (e : Ext G W G' W') (l : Le G G') (r : ∀ b, G.res b = true → G'.res b = true) : Good G W G' st' W' := ⟨h.to s e, e, l, r⟩
theorem Sim.of_heap {W' : World} (h : Sim G st W) (e : W'.heap = W.heap) : Sim G st W' :=
  ⟨⟨by rw [e]; exact h.imm, h.dom, fun b B hb => by
     obtain ⟨⟨cs, c, T, h1, h2, h3⟩, h4⟩ := h.box b B hb
     exact ⟨⟨cs, c, T, h1, by rw [e]; exact h2, h3⟩, h4⟩, h.inj, fun b d hd => by
     have t := h.tip b d hd
     exact ⟨t.st, t.nobox, t.le, t.none, t.pos, by rw [e]; exact t.room⟩, h.tinj, h.base, h.res⟩, by rw [e]; exact h.fix⟩
theorem Ext.of_heap {G' : Ghost} {W' W'' : World} (h : Ext G W G' W') (e : W''.heap = W'.heap) (o : W''.os = W'.os ∧ W''.tape = W'.tape ∧ W''.output = W'.output) : Ext G W G' W'' :=
  ⟨h.imm, by rw [e]; exact h.size, by rw [e]; exact h.keep, h.immK, h.tb, ⟨o.1.trans h.env.1, o.2.1.trans h.env.2.1, o.2.2.trans h.env.2.2⟩, h.fix⟩
theorem Good.of_heap {G' : Ghost} {st' : St} {W' W'' : World} (h : Good G W G' st' W') (e : W''.heap = W'.heap) (o : W''.os = W'.os ∧ W''.tape = W'.tape ∧ W''.output = W'.output) : Good G W G' st' W'' :=
  ⟨h.sim.of_heap e, h.ext.of_heap e o, h.le, h.res⟩
theorem Sim.lt_box (h : Sim G st W) {b B : Nat} (hb : G.box b = some B) : b < st.length ∧ B < W.heap.size := by
  obtain ⟨⟨cs, c, T, h1, h2, _⟩, _⟩ := h.box b B hb
  exact ⟨(List.getElem?_eq_some_iff.1 h1).1, (Array.getElem?_eq_some_iff.1 h2).1⟩
theorem Sim.lt_hdr (h : Sim G st W) {b : Nat} {d : Hdr} (hb : G.hdr b = some d) : b < st.length :=
  (List.getElem?_eq_some_iff.1 (h.tip b d hb).st).1
theorem Sim.lt_imm (h : Sim G st W) {B o : Nat} {v : Value} (hb : G.imm B o = some v) : B < W.heap.size := by
  obtain ⟨c, T, f, h1, _⟩ := h.imm B o v hb
  exact (Array.getElem?_eq_some_iff.1 h1).1
theorem Sim.lt_tb (h : Sim G st W) {B : Nat} (t : TB G B) : B < W.heap.size := by
  rcases t with ⟨b, hb⟩ | ⟨b, d, hd, ht, ha⟩
  · exact (h.lt_box hb).2
  · obtain ⟨B', c, T, h1, h2, _⟩ := (h.tip b d hd).room ht
    rw [h1] at ha; cases ha
    exact (Array.getElem?_eq_some_iff.1 h2).1
theorem Sim.refs_lt (h : Sim G st W) {x : V} {v : Value} (hr : Rep G x v) : ∀ b ∈ refs x, b < st.length := fun b hb => by
  rcases Rep.dom x v hr b hb with ⟨B, e⟩ | ⟨d, e⟩
  · exact (h.lt_box e).1
  · exact h.lt_hdr e
theorem Sim.cell (h : Sim G st W) {B o : Nat} {v : Value} (hb : G.imm B o = some v) : W.cell? (adr B o) = some v := by
  obtain ⟨c, T, f, h1, h2⟩ := h.imm B o v hb
  simp [World.cell?, adr, h1, h2]
theorem Hdr.room_addr (h : Sim G st W) {b : Nat} {d : Hdr} (hb : G.hdr b = some d) (hr : d.tip < d.cap) : ∃ B, d.addr = some (B, 0) ∧ TB G B := by
  obtain ⟨B, c, T, h1, _⟩ := (h.tip b d hb).room hr
  exact ⟨B, h1, .inr ⟨b, d, hb, hr, h1⟩⟩
theorem Sim.alloc (h : Sim G st W) (o : Obj) : Sim G st (W.alloc o) := by
  have old : ∀ {B : Nat} {x : Obj}, W.heap[B]? = some x → (W.alloc o).heap[B]? = some x := fun {B x} e => by
    rw [heap_alloc_old W o B (Array.getElem?_eq_some_iff.1 e).1]; exact e
  exact ⟨⟨fun B o v e => by obtain ⟨c, T, f, h1, h2⟩ := h.imm B o v e; exact ⟨c, T, f, old h1, h2⟩, h.dom,
    fun b B hb => by obtain ⟨⟨cs, c, T, h1, h2, h3⟩, h4⟩ := h.box b B hb; exact ⟨⟨cs, c, T, h1, old h2, h3⟩, h4⟩, h.inj,
    fun b d hd => by
      have t := h.tip b d hd
      exact ⟨t.st, t.nobox, t.le, t.none, t.pos, fun hr => by
        obtain ⟨B, c, T, h1, h2, h3⟩ := t.room hr
        exact ⟨B, c, T, h1, old h2, h3⟩⟩, h.tinj, h.base, h.res⟩, fun B x e => ⟨old (h.fix B x e).1, (h.fix B x e).2⟩⟩
theorem Ext.alloc (G : Ghost) (W : World) (o : Obj) : Ext G W G (W.alloc o) :=
  ⟨fun _ _ _ h => h, by simp, fun B hB _ => heap_alloc_old W o B hB, fun _ _ _ _ => rfl, fun _ _ h => h, ⟨rfl, rfl, rfl⟩, rfl⟩
theorem Good.alloc (h : Sim G st W) (o : Obj) : Good G W G st (W.alloc o) := ⟨h.alloc o, .alloc G W o, .refl _, fun _ h => h⟩
def Ghost.addBox (G : Ghost) (n B : Nat) : Ghost := { G with box := fun b => if b = n then some B else G.box b }
theorem Good.pushBox (h : Sim G st W) (c : Array Value) (T : TypeId) {cs : List V} (hr : Reps G cs c.toList) :
    Good G W (G.addBox st.length W.heap.size) (st ++ [cs]) (W.alloc (.cells c T)) ∧ (G.addBox st.length W.heap.size).box st.length = some W.heap.size := by
  have hd := h.dom st.length (Nat.le_refl _)
  have le : Le G (G.addBox st.length W.heap.size) := ⟨fun _ _ _ e => e, fun b B e => by
    have hne : b ≠ st.length := by intro hb; rw [hb, hd.1] at e; cases e
    simp [Ghost.addBox, hne, e], fun b d e => ⟨d, e, .refl d⟩⟩
  have hs := h.alloc (.cells c T)
  have himm : ∀ o, G.imm W.heap.size o = none := fun o => by
    cases e : G.imm W.heap.size o with
    | none => rfl
    | some v => exact absurd (h.lt_imm e) (Nat.lt_irrefl _)
  have getold : ∀ b x, st[b]? = some x → (st ++ [cs])[b]? = some x := fun b x e => by
    rw [List.getElem?_append_left (List.getElem?_eq_some_iff.1 e).1]; exact e
  refine ⟨mkGood h ⟨hs.imm, fun b hb => ?_, fun b B hb => ?_, fun b b' B hb hb' => ?_, fun b d hd' => ?_, hs.tinj, h.base, fun b hb => ?_⟩ ⟨fun _ _ _ e => e, by simp, fun B hB _ => heap_alloc_old W _ B hB, fun _ _ _ _ => rfl, fun B hB t => ?_, ⟨rfl, rfl, rfl⟩, rfl⟩ le (fun _ h => h), by simp [Ghost.addBox]⟩
  · simp only [List.length_append, List.length_singleton] at hb
    have := h.dom b (by omega)
    exact ⟨by simp [Ghost.addBox, show b ≠ st.length by omega, this.1], this.2⟩
  · by_cases hbn : b = st.length
    · subst hbn
      simp only [Ghost.addBox, if_true, Option.some.injEq] at hb
      subst hb
      exact ⟨⟨cs, c, T, by simp, heap_alloc_new W _, hr.le le⟩, himm⟩
    · simp only [Ghost.addBox, hbn, if_false] at hb
      obtain ⟨⟨cs', c', T', h1, h2, h3⟩, h4⟩ := hs.box b B hb
      exact ⟨⟨cs', c', T', getold _ _ h1, h2, h3.le le⟩, h4⟩
  · by_cases h1 : b = st.length <;> by_cases h2 : b' = st.length <;> simp only [Ghost.addBox, h1, h2, if_true, if_false, Option.some.injEq] at hb hb'
    · omega
    · subst hb; exact absurd (h.lt_box hb').2 (Nat.lt_irrefl _)
    · subst hb'; exact absurd (h.lt_box hb).2 (Nat.lt_irrefl _)
    · exact h.inj b b' B hb hb'
  · have t := hs.tip b d hd'
    have hne : b ≠ st.length := by intro e; rw [e] at hd'; rw [show (G.addBox st.length W.heap.size).hdr = G.hdr from rfl, hd.2] at hd'; cases hd'
    refine ⟨getold _ _ t.st, by simp [Ghost.addBox, hne, t.nobox], t.le, t.none, t.pos, fun hr' => ?_⟩
    obtain ⟨B, c', T', h1, h2, h3, h4, h5⟩ := t.room hr'
    refine ⟨B, c', T', h1, h2, h3, h4, fun b' => ?_⟩
    by_cases hb' : b' = st.length
    · simp only [Ghost.addBox, hb', if_true, ne_eq, Option.some.injEq]
      intro e
      have := h.lt_tb (.inr ⟨b, d, hd', hr', h1⟩)
      omega
    · simpa [Ghost.addBox, hb'] using h5 b'
  · obtain ⟨r1, r2, r3⟩ := h.res b hb
    exact ⟨by simp; omega, by simp [Ghost.addBox, show b ≠ st.length by omega, r2], r3⟩
  · rcases t with ⟨b, hb⟩ | t
    · by_cases hbn : b = st.length
      · simp only [Ghost.addBox, hbn, if_true, Option.some.injEq] at hb; omega
      · simp only [Ghost.addBox, hbn, if_false] at hb; exact .inl ⟨b, hb⟩
    · exact .inr t
def Ghost.fillBox (G : Ghost) (n B : Nat) : Ghost := { G with box := fun b => if b = n then some B else G.box b, res := fun b => if b = n then false else G.res b }
theorem Good.fillBox (h : Sim G st W) {n : Nat} (hn : G.res n = true) (c : Array Value) (T : TypeId) {cs : List V} (hs0 : st[n]? = some cs) (hr : Reps G cs c.toList) :
    Sim (G.fillBox n W.heap.size) st (W.alloc (.cells c T)) ∧ Ext G W (G.fillBox n W.heap.size) (W.alloc (.cells c T)) ∧ Le G (G.fillBox n W.heap.size) ∧
      (G.fillBox n W.heap.size).box n = some W.heap.size ∧ ∀ b, b ≠ n → G.res b = true → (G.fillBox n W.heap.size).res b = true := by
  obtain ⟨hlt, hnb, hnh⟩ := h.res n hn
  have le : Le G (G.fillBox n W.heap.size) := ⟨fun _ _ _ e => e, fun b B e => by
    have hne : b ≠ n := by intro hb; rw [hb, hnb] at e; cases e
    simp [Ghost.fillBox, hne, e], fun b d e => ⟨d, e, .refl d⟩⟩
  have hs := h.alloc (.cells c T)
  have himm : ∀ o, G.imm W.heap.size o = none := fun o => by
    cases e : G.imm W.heap.size o with
    | none => rfl
    | some v => exact absurd (h.lt_imm e) (Nat.lt_irrefl _)
  have fin : ∀ (s : Sim0 (G.fillBox n W.heap.size) st (W.alloc (.cells c T))) (e : Ext G W (G.fillBox n W.heap.size) (W.alloc (.cells c T))), Sim (G.fillBox n W.heap.size) st (W.alloc (.cells c T)) ∧ Ext G W (G.fillBox n W.heap.size) (W.alloc (.cells c T)) ∧ Le G (G.fillBox n W.heap.size) ∧ (G.fillBox n W.heap.size).box n = some W.heap.size ∧ ∀ b, b ≠ n → G.res b = true → (G.fillBox n W.heap.size).res b = true := fun s e => ⟨h.to s e, e, le, by simp [Ghost.fillBox], fun b hne hb => by simp [Ghost.fillBox, hne, hb]⟩
  refine fin ⟨hs.imm, fun b hb => ?_, fun b B hb => ?_, fun b b' B hb hb' => ?_, fun b d hd' => ?_, hs.tinj, h.base, fun b hb => ?_⟩ ⟨fun _ _ _ e => e, by simp, fun B hB _ => heap_alloc_old W _ B hB, fun _ _ _ _ => rfl, fun B hB t => ?_, ⟨rfl, rfl, rfl⟩, rfl⟩
  · have := h.dom b hb
    exact ⟨by simp [Ghost.fillBox, show b ≠ n by omega, this.1], this.2⟩
  · by_cases hbn : b = n
    · subst hbn
      simp only [Ghost.fillBox, if_true, Option.some.injEq] at hb
      subst hb
      exact ⟨⟨cs, c, T, hs0, heap_alloc_new W _, hr.le le⟩, himm⟩
    · simp only [Ghost.fillBox, hbn, if_false] at hb
      obtain ⟨⟨cs', c', T', h1, h2, h3⟩, h4⟩ := hs.box b B hb
      exact ⟨⟨cs', c', T', h1, h2, h3.le le⟩, h4⟩
  · by_cases h1 : b = n <;> by_cases h2 : b' = n <;> simp only [Ghost.fillBox, h1, h2, if_true, if_false, Option.some.injEq] at hb hb'
    · omega
    · subst hb; exact absurd (h.lt_box hb').2 (Nat.lt_irrefl _)
    · subst hb'; exact absurd (h.lt_box hb).2 (Nat.lt_irrefl _)
    · exact h.inj b b' B hb hb'
  · have t := hs.tip b d hd'
    have hne : b ≠ n := by intro e; rw [e] at hd'; rw [show (G.fillBox n W.heap.size).hdr = G.hdr from rfl, hnh] at hd'; cases hd'
    refine ⟨t.st, by simp [Ghost.fillBox, hne, t.nobox], t.le, t.none, t.pos, fun hr' => ?_⟩
    obtain ⟨B, c', T', h1, h2, h3, h4, h5⟩ := t.room hr'
    refine ⟨B, c', T', h1, h2, h3, h4, fun b' => ?_⟩
    by_cases hb' : b' = n
    · simp only [Ghost.fillBox, hb', if_true, ne_eq, Option.some.injEq]
      intro e
      have := h.lt_tb (.inr ⟨b, d, hd', hr', h1⟩)
      omega
    · simpa [Ghost.fillBox, hb'] using h5 b'
  · by_cases hbn : b = n
    · subst hbn; simp [Ghost.fillBox] at hb
    · simp only [Ghost.fillBox, hbn, if_false] at hb
      obtain ⟨r1, r2, r3⟩ := h.res b hb
      exact ⟨r1, by simp [Ghost.fillBox, hbn, r2], r3⟩
  · rcases t with ⟨b, hb⟩ | t
    · by_cases hbn : b = n
      · simp only [Ghost.fillBox, hbn, if_true, Option.some.injEq] at hb; omega
      · simp only [Ghost.fillBox, hbn, if_false] at hb; exact .inl ⟨b, hb⟩
    · exact .inr t
def Ghost.hold (G : Ghost) (lo hi : Nat) : Ghost := { G with res := fun b => G.res b || (decide (lo ≤ b) && decide (b < hi)) }
theorem Good.hold (h : Sim G st W) (zs : List (List V)) : Good G W (G.hold st.length (st.length + zs.length)) (st ++ zs) W := by
  have le : Le G (G.hold st.length (st.length + zs.length)) := ⟨fun _ _ _ e => e, fun _ _ e => e, fun _ d e => ⟨d, e, .refl d⟩⟩
  have getold : ∀ b x, st[b]? = some x → (st ++ zs)[b]? = some x := fun b x e => by
    rw [List.getElem?_append_left (List.getElem?_eq_some_iff.1 e).1]; exact e
  refine mkGood h ⟨h.imm, fun b hb => h.dom b (by rw [List.length_append] at hb; omega), fun b B hb => ?_, h.inj, fun b d hd => ?_, h.tinj, h.base, fun b hb => ?_⟩ ⟨fun _ _ _ e => e, Nat.le_refl _, fun _ _ _ => rfl, fun _ _ _ _ => rfl, fun _ _ t => t, ⟨rfl, rfl, rfl⟩, rfl⟩ le (fun b hb => by simp [Ghost.hold, hb])
  · obtain ⟨⟨cs, c, T, h1, h2, h3⟩, h4⟩ := h.box b B hb
    exact ⟨⟨cs, c, T, getold _ _ h1, h2, h3.le le⟩, h4⟩
  · have t := h.tip b d hd
    exact ⟨getold _ _ t.st, t.nobox, t.le, t.none, t.pos, t.room⟩
  · rw [List.length_append]
    simp only [Ghost.hold, Bool.or_eq_true, Bool.and_eq_true, decide_eq_true_eq] at hb
    rcases hb with hb | hb
    · obtain ⟨r1, r2⟩ := h.res b hb
      exact ⟨by omega, r2⟩
    · exact ⟨hb.2, h.dom b hb.1⟩
theorem Good.setBox (h : Sim G st W) {b B : Nat} (hb : G.box b = some B) {c' : Array Value} {cs' : List V} (hr : Reps G cs' c'.toList) :
    Good G W G (st.set b cs') (W.setRow B c') := by
  obtain ⟨⟨cs, c, T, h1, h2, h3⟩, h4⟩ := h.box b B hb
  have hbl : b < st.length := (List.getElem?_eq_some_iff.1 h1).1
  have other : ∀ k, k ≠ B → (W.setRow B c').heap[k]? = W.heap[k]? := fun k hk => setRow_other W B k c' hk
  have this : (W.setRow B c').heap[B]? = some (.cells c' T (0, 0)) := setRow_heap W B c c' T (0, 0) h2
  refine mkGood h ⟨fun B' o v e => ?_, fun b' hb' => h.dom b' (by simpa using hb'), fun b' B' hb' => ?_, h.inj, fun b' d hd => ?_, h.tinj, h.base, fun b' hb' => by obtain ⟨r1, r2⟩ := h.res b' hb'; exact ⟨by simpa using r1, r2⟩⟩
    ⟨fun _ _ _ e => e, by simp, fun B' _ hn => other B' (fun e => hn (.inl ⟨b, by rw [e]; exact hb⟩)), fun _ _ _ _ => rfl, fun _ _ t => t, ⟨rfl, rfl, rfl⟩, rfl⟩ (.refl _) (fun _ h => h)
  · have hne : B' ≠ B := by intro e'; rw [e', h4 o] at e; cases e
    rw [other B' hne]; exact h.imm B' o v e
  · by_cases hbb : b' = b
    · subst hbb
      rw [hb] at hb'; cases hb'
      exact ⟨⟨cs', c', T, by simp [hbl], this, hr⟩, h4⟩
    · have hne : B' ≠ B := fun e => hbb (h.inj b' b B (e ▸ hb') hb)
      obtain ⟨⟨cs2, c2, T2, k1, k2, k3⟩, k4⟩ := h.box b' B' hb'
      exact ⟨⟨cs2, c2, T2, by rw [List.getElem?_set_ne (Ne.symm hbb)]; exact k1, by rw [other B' hne]; exact k2, k3⟩, k4⟩
  · have t := h.tip b' d hd
    have hne : b' ≠ b := by intro e; rw [e] at hd; have := (h.tip b d hd).nobox; rw [hb] at this; cases this
    refine ⟨by rw [List.getElem?_set_ne (Ne.symm hne)]; exact t.st, t.nobox, t.le, t.none, t.pos, fun hr' => ?_⟩
    obtain ⟨B', c2, T2, k1, k2, k3, k4, k5⟩ := t.room hr'
    exact ⟨B', c2, T2, k1, by rw [other B' (fun e => k5 b (by rw [e]; exact hb))]; exact k2, k3, k4, k5⟩
def Ghost.addHdr (G : Ghost) (n : Nat) (h : Hdr) : Ghost := { G with hdr := fun b => if b = n then some h else G.hdr b }
theorem Le.addHdr (h : Sim G st W) (d : Hdr) : Le G (G.addHdr st.length d) :=
  ⟨fun _ _ _ e => e, fun _ _ e => e, fun b x e => ⟨x, by
    have hne : b ≠ st.length := by intro hb; rw [hb, (h.dom st.length (Nat.le_refl _)).2] at e; cases e
    simp [Ghost.addHdr, hne, e], .refl x⟩⟩
theorem Good.pushFull (h : Sim G st W) (d : Hdr) (hc : d.cap = d.tip) (hn : d.addr = none → d.cap = 0) :
    Good G W (G.addHdr st.length d) (st ++ [[.tip d.tip]]) W := by
  have hd := h.dom st.length (Nat.le_refl _)
  have le := Le.addHdr h d
  have getold : ∀ b x, st[b]? = some x → (st ++ [[V.tip d.tip]])[b]? = some x := fun b x e => by
    rw [List.getElem?_append_left (List.getElem?_eq_some_iff.1 e).1]; exact e
  refine mkGood h ⟨h.imm, fun b hb => ?_, fun b B hb => ?_, h.inj, fun b x hx => ?_, fun b b' x x' hx hx' r r' e => ?_, h.base, fun b hb => by obtain ⟨r1, r2, r3⟩ := h.res b hb; exact ⟨by simp; omega, r2, by simp [Ghost.addHdr, show b ≠ st.length by omega, r3]⟩⟩ ⟨fun _ _ _ e => e, Nat.le_refl _, fun _ _ _ => rfl, fun _ _ _ _ => rfl, fun B hB t => ?_, ⟨rfl, rfl, rfl⟩, rfl⟩ le (fun _ h => h)
  · simp only [List.length_append, List.length_singleton] at hb
    have := h.dom b (by omega)
    exact ⟨this.1, by simp [Ghost.addHdr, show b ≠ st.length by omega, this.2]⟩
  · obtain ⟨⟨cs, c, T, h1, h2, h3⟩, h4⟩ := h.box b B hb
    exact ⟨⟨cs, c, T, getold _ _ h1, h2, h3.le le⟩, h4⟩
  · by_cases hb : b = st.length
    · subst hb
      simp only [Ghost.addHdr, if_true, Option.some.injEq] at hx
      subst hx
      exact ⟨by simp, hd.1, by omega, hn, fun r => by omega, fun r => by omega⟩
    · simp only [Ghost.addHdr, hb, if_false] at hx
      have t := h.tip b x hx
      exact ⟨getold _ _ t.st, t.nobox, t.le, t.none, t.pos, t.room⟩
  · have k : ∀ {b x}, (G.addHdr st.length d).hdr b = some x → x.tip < x.cap → G.hdr b = some x := fun {b x} e r => by
      by_cases hb : b = st.length
      · subst hb; simp only [Ghost.addHdr, if_true, Option.some.injEq] at e; subst e; omega
      · simpa [Ghost.addHdr, hb] using e
    exact h.tinj b b' x x' (k hx r) (k hx' r') r r' e
  · rcases t with ⟨b, hb⟩ | ⟨b, x, hx, r, ha⟩
    · exact .inl ⟨b, hb⟩
    · by_cases hb : b = st.length
      · subst hb; simp only [Ghost.addHdr, if_true, Option.some.injEq] at hx; subst hx; omega
      · exact .inr ⟨b, x, by simpa [Ghost.addHdr, hb] using hx, r, ha⟩
def Ghost.cut (G : Ghost) (n : Nat) : Ghost := { G with box := fun b => if b < n then G.box b else none, hdr := fun b => if b < n then G.hdr b else none, res := fun b => decide (b < n) && G.res b }
theorem Tr.cut (G : Ghost) (n : Nat) (L : List Nat) (h : ∀ b ∈ L, b < n) : Tr G (G.cut n) id L :=
  ⟨fun _ _ _ e => e, fun b hb B e => by simp [Ghost.cut, h b hb, e], fun b hb d e => ⟨d, by simp [Ghost.cut, h b hb, e], .refl d⟩⟩
theorem Rep.cut {x : V} {v : Value} {n : Nat} (hr : Rep G x v) (h : ∀ b ∈ refs x, b < n) : Rep (G.cut n) x v := by
  have := Rep.tr x v (Tr.cut G n _ h) hr
  rwa [ren_id id x (fun _ _ => rfl)] at this
theorem Reps.cut {xs : List V} {vs : List Value} {n : Nat} (hr : Reps G xs vs) (h : ∀ b ∈ refsL xs, b < n) : Reps (G.cut n) xs vs := by
  have := Reps.tr xs vs (Tr.cut G n _ h) hr
  rwa [renL_id id xs (fun _ _ => rfl)] at this
theorem Sim.cut (h : Sim G st W) {n : Nat} (hc : ∀ b, b < n → ∀ r ∈ refsL (st.getD b []), r < n) : Sim (G.cut n) (st.take n) W := by
  have bx : ∀ {b B}, (G.cut n).box b = some B → b < n ∧ G.box b = some B := fun {b B} e => by
    simp only [Ghost.cut] at e; split at e
    · exact ⟨‹_›, e⟩
    · cases e
  have hx : ∀ {b d}, (G.cut n).hdr b = some d → b < n ∧ G.hdr b = some d := fun {b B} e => by
    simp only [Ghost.cut] at e; split at e
    · exact ⟨‹_›, e⟩
    · cases e
  refine ⟨⟨h.imm, fun b hb => ?_, fun b B hb => ?_, fun b b' B hb hb' => h.inj b b' B (bx hb).2 (bx hb').2, fun b d hd => ?_, fun b b' x x' e e' => h.tinj b b' x x' (hx e).2 (hx e').2, h.base, fun b hb => ?_⟩, fun B o e => ⟨(h.fix B o e).1, fun t => (h.fix B o e).2 (by
    rcases t with ⟨b, hb⟩ | ⟨b, d, hd, r, ha⟩
    · exact .inl ⟨b, (bx hb).2⟩
    · exact .inr ⟨b, d, (hx hd).2, r, ha⟩)⟩⟩
  · rw [List.length_take] at hb
    by_cases hbn : b < n
    · have := h.dom b (by omega)
      simp [Ghost.cut, hbn, this]
    · simp [Ghost.cut, hbn]
  · obtain ⟨hbn, hb⟩ := bx hb
    obtain ⟨⟨cs, c, T, h1, h2, h3⟩, h4⟩ := h.box b B hb
    refine ⟨⟨cs, c, T, by rw [List.getElem?_take_of_lt hbn]; exact h1, h2, h3.cut ?_⟩, h4⟩
    have := hc b hbn
    simpa [List.getD, h1] using this
  · obtain ⟨hbn, hd⟩ := hx hd
    have t := h.tip b d hd
    refine ⟨by rw [List.getElem?_take_of_lt hbn]; exact t.st, by simp [Ghost.cut, t.nobox], t.le, t.none, t.pos, fun r => ?_⟩
    obtain ⟨B, c, T, h1, h2, h3, h4, h5⟩ := t.room r
    exact ⟨B, c, T, h1, h2, h3, h4, fun b' e => h5 b' (bx e).2⟩
  · simp only [Ghost.cut, Bool.and_eq_true, decide_eq_true_eq] at hb
    obtain ⟨r1, r2, r3⟩ := h.res b hb.2
    exact ⟨by rw [List.length_take]; omega, by simp [Ghost.cut, r2], by simp [Ghost.cut, r3]⟩
theorem Ext.cut {G' : Ghost} {W' : World} (h : Ext G W G' W') (n : Nat) : Ext G W (G'.cut n) W' :=
  ⟨h.imm, h.size, h.keep, h.immK, fun B hB t => h.tb B hB (by
    rcases t with ⟨b, hb⟩ | ⟨b, d, hd, r, ha⟩
    · simp only [Ghost.cut] at hb; split at hb
      · exact .inl ⟨b, hb⟩
      · cases hb
    · simp only [Ghost.cut] at hd; split at hd
      · exact .inr ⟨b, d, hd, r, ha⟩
      · cases hd), h.env, h.fix⟩
theorem Le.cut {G' : Ghost} (h : Le G G') (s : Sim G st W) {n : Nat} (hn : st.length ≤ n) : Le G (G'.cut n) :=
  ⟨h.imm, fun b B e => by have := (s.lt_box e).1; simp [Ghost.cut, show b < n by omega, h.box b B e], fun b d e => by
    have := s.lt_hdr e
    obtain ⟨d', e', l⟩ := h.hdr b d e
    exact ⟨d', by simp [Ghost.cut, show b < n by omega, e'], l⟩⟩
end Go.Abs
namespace Go.Abs
open Go
def Ghost.fill (G : Ghost) (B lo : Nat) (vs : List Value) : Ghost :=
  { G with imm := fun B' o => if B' = B ∧ lo ≤ o ∧ o < lo + vs.length then vs[o - lo]? else G.imm B' o }
theorem Ghost.fill_in (G : Ghost) (B lo : Nat) (vs : List Value) {i : Nat} {v : Value} (h : vs[i]? = some v) : (G.fill B lo vs).imm B (lo + i) = some v := by
  have := (List.getElem?_eq_some_iff.1 h).1
  simp only [Ghost.fill]
  rw [if_pos ⟨trivial, by omega, by omega⟩, Nat.add_sub_cancel_left]; exact h
theorem Ghost.fill_old (G : Ghost) {B lo : Nat} {vs : List Value} (hn : ∀ o, lo ≤ o → G.imm B o = none) {B' o : Nat} {v : Value} (h : G.imm B' o = some v) : (G.fill B lo vs).imm B' o = some v := by
  simp only [Ghost.fill]
  rw [if_neg]; · exact h
  rintro ⟨rfl, h1, _⟩
  rw [hn o h1] at h; cases h
theorem Ghost.fill_inv (G : Ghost) {B lo : Nat} {vs : List Value} {B' o : Nat} {v : Value} (h : (G.fill B lo vs).imm B' o = some v) :
    G.imm B' o = some v ∨ (B' = B ∧ lo ≤ o ∧ vs[o - lo]? = some v) := by
  simp only [Ghost.fill] at h
  split at h
  · rename_i hc; exact .inr ⟨hc.1, hc.2.1, h⟩
  · exact .inl h
theorem Reads.of_reps {G G' : Ghost} (hi : ∀ B o v, G.imm B o = some v → G'.imm B o = some v) :
    ∀ {cs : List V} {vs : List Value} {B o : Nat}, Reps G cs vs → (∀ u ∈ vs, u.oneCell' = true) → refsL cs = [] → (∀ (i : Nat) (v : Value), vs[i]? = some v → G'.imm B (o + i) = some v) → Reads G' cs B o
  | [], _, _, _, _, _, _, _ => trivial
  | x :: xs, _, B, o, h, h1, hn, hv => by
    obtain ⟨v, r, rfl, h2, h3⟩ := h
    simp only [refsL, List.append_eq_nil_iff] at hn
    refine ⟨⟨v, by simpa using hv 0 v rfl, h1 v (by simp), h2.pure hi hn.1⟩, Reads.of_reps hi h3 (fun u hu => h1 u (by simp [hu])) hn.2 fun i v e => ?_⟩
    have := hv (i + 1) v (by simpa using e)
    rwa [show o + (i + 1) = o + 1 + i by omega] at this
theorem Reads.exists {G : Ghost} : ∀ {cs : List V} {B o : Nat}, Reads G cs B o → ∃ vs, Reps G cs vs ∧ (∀ u ∈ vs, u.oneCell' = true) ∧ ∀ (i : Nat) (v : Value), vs[i]? = some v → G.imm B (o + i) = some v
  | [], _, _, _ => ⟨[], rfl, by simp, by simp⟩
  | x :: xs, B, o, h => by
    obtain ⟨⟨v, h1, h2, h3⟩, h4⟩ := h
    obtain ⟨vs, k1, k2, k3⟩ := Reads.exists h4
    refine ⟨v :: vs, ⟨v, vs, rfl, h3, k1⟩, ?_, fun i u e => ?_⟩
    · intro u hu; rcases List.mem_cons.1 hu with rfl | hu
      · exact h2
      · exact k2 u hu
    · cases i with
      | zero => simp at e; subst e; exact h1
      | succ i =>
        have := k3 i u (by simpa using e)
        rwa [show o + 1 + i = o + (i + 1) by omega] at this
variable {G : Ghost} {st : St} {W : World}
theorem Sim.imm_new (h : Sim G st W) (o : Nat) : G.imm W.heap.size o = none := by
  cases e : G.imm W.heap.size o with
  | none => rfl
  | some v => exact absurd (h.lt_imm e) (Nat.lt_irrefl _)
theorem le_fill {B lo : Nat} {vs : List Value} (hn : ∀ o, lo ≤ o → G.imm B o = none) : Le G (G.fill B lo vs) :=
  ⟨fun _ _ _ e => G.fill_old hn e, fun _ _ e => e, fun _ d e => ⟨d, e, .refl d⟩⟩
theorem Good.pushImm (h : Sim G st W) (c : Array Value) (T : TypeId) :
    Good G W (G.fill W.heap.size 0 c.toList) st (W.alloc (.cells c T)) := by
  have hn : ∀ o, 0 ≤ o → G.imm W.heap.size o = none := fun o _ => h.imm_new o
  have hs := h.alloc (.cells c T)
  have le : Le G (G.fill W.heap.size 0 c.toList) := le_fill hn
  have other : ∀ B, B ≠ W.heap.size → ∀ o, (G.fill W.heap.size 0 c.toList).imm B o = G.imm B o := fun B hB o => by
    simp only [Ghost.fill]; rw [if_neg]; rintro ⟨e, _⟩; exact hB e
  refine mkGood h ⟨fun B o v e => ?_, h.dom, fun b B hb => ?_, h.inj, fun b d hd => ?_, h.tinj, baseOk_mono le.imm h.base, h.res⟩ ⟨le.imm, by simp, fun B hB _ => heap_alloc_old W _ B hB, fun B hB _ o => ?_, fun _ _ t => t, ⟨rfl, rfl, rfl⟩, rfl⟩ le (fun _ h => h)
  · rcases G.fill_inv e with e | ⟨rfl, _, e⟩
    · exact hs.imm B o v e
    · exact ⟨c, T, (0, 0), heap_alloc_new W _, by simpa using e⟩
  · obtain ⟨⟨cs, c', T', h1, h2, h3⟩, h4⟩ := hs.box b B hb
    exact ⟨⟨cs, c', T', h1, h2, h3.le le⟩, fun o => by rw [other B (Nat.ne_of_lt (h.lt_box hb).2)]; exact h4 o⟩
  · have t := hs.tip b d hd
    refine ⟨t.st, t.nobox, t.le, t.none, t.pos, fun r => ?_⟩
    obtain ⟨B, c', T', h1, h2, h3, h4, h5⟩ := t.room r
    exact ⟨B, c', T', h1, h2, h3, fun o ho => by rw [other B (Nat.ne_of_lt (h.lt_tb (.inr ⟨b, d, hd, r, h1⟩)))]; exact h4 o ho, h5⟩
  · exact other B (Nat.ne_of_lt hB) o
theorem Good.newTip (h : Sim G st W) {b : Nat} {d : Hdr} {st' : St} (hres : G.res b = false) (hnob : G.box b = none) (hle : ∀ d', G.hdr b = some d' → d'.le d) (hlen : st.length ≤ st'.length)
    (hget : ∀ b' x, b' ≠ b → st[b']? = some x → st'[b']? = some x) (hb : st'[b]? = some [.tip d.tip])
    (c : Array Value) (T : TypeId) (vs : List Value) (hvs : ∀ (i : Nat) (v : Value), vs[i]? = some v → c[i]? = some v) (ha : d.addr = some (W.heap.size, 0)) (htc : d.tip ≤ d.cap) (hpos : 0 < d.tip) (hc : d.cap * d.size ≤ c.size)
    (hl : vs.length ≤ d.tip * d.size) :
    Good G W ((G.fill W.heap.size 0 vs).addHdr b d) st' (W.drew.alloc (.cells c T)) := by
  have hn : ∀ o, 0 ≤ o → G.imm W.heap.size o = none := fun o _ => h.imm_new o
  have hs : Sim G st (W.drew.alloc (.cells c T)) := (h.of_heap (W' := W.drew) rfl).alloc _
  have le : Le G ((G.fill W.heap.size 0 vs).addHdr b d) := ⟨fun _ _ _ e => G.fill_old hn e, fun _ _ e => e, fun b' x e => by
    by_cases hbb : b' = b
    · subst hbb; exact ⟨d, by simp [Ghost.addHdr], hle x e⟩
    · exact ⟨x, by simp [Ghost.addHdr, hbb, Ghost.fill, e], .refl x⟩⟩
  have other : ∀ B, B ≠ W.heap.size → ∀ o, ((G.fill W.heap.size 0 vs).addHdr b d).imm B o = G.imm B o := fun B hB o => by
    simp only [Ghost.addHdr, Ghost.fill]; rw [if_neg]; rintro ⟨e, _⟩; exact hB e
  have hx : ∀ {b' x}, ((G.fill W.heap.size 0 vs).addHdr b d).hdr b' = some x → (b' = b ∧ x = d) ∨ (b' ≠ b ∧ G.hdr b' = some x) := fun {b' x} e => by
    by_cases hbb : b' = b
    · subst hbb; simp only [Ghost.addHdr, if_true, Option.some.injEq] at e; exact .inl ⟨rfl, e.symm⟩
    · exact .inr ⟨hbb, by simpa [Ghost.addHdr, hbb, Ghost.fill] using e⟩
  have hbl : b < st'.length := (List.getElem?_eq_some_iff.1 hb).1
  have new : (W.drew.alloc (.cells c T)).heap[W.heap.size]? = some (.cells c T (0, 0)) := heap_alloc_new W.drew _
  refine mkGood h ⟨fun B o v e => ?_, fun b' hb' => ?_, fun b' B hb' => ?_, h.inj, fun b' x hx' => ?_, fun b1 b2 x1 x2 e1 e2 r1 r2 e => ?_, baseOk_mono le.imm h.base, fun b' hb' => ?_⟩
    ⟨le.imm, by simp, fun B hB _ => heap_alloc_old W.drew _ B hB, fun B hB _ o => other B (Nat.ne_of_lt hB) o, fun B hB t => ?_, ⟨rfl, rfl, rfl⟩, rfl⟩ le (fun _ h => h)
  · rcases G.fill_inv (show (G.fill W.heap.size 0 vs).imm B o = some v from e) with e | ⟨rfl, _, e⟩
    · exact hs.imm B o v e
    · exact ⟨c, T, (0, 0), new, hvs _ _ (by simpa using e)⟩
  · have k := h.dom b' (Nat.le_trans hlen hb')
    have hne : b' ≠ b := by omega
    exact ⟨k.1, by simp [Ghost.addHdr, hne, Ghost.fill, k.2]⟩
  · have hne : b' ≠ b := by intro e; rw [e] at hb'; rw [show ((G.fill W.heap.size 0 vs).addHdr b d).box = G.box from rfl, hnob] at hb'; cases hb'
    obtain ⟨⟨cs, c', T', h1, h2, h3⟩, h4⟩ := hs.box b' B hb'
    exact ⟨⟨cs, c', T', hget b' _ hne h1, h2, h3.le le⟩, fun o => by rw [other B (Nat.ne_of_lt (h.lt_box hb').2)]; exact h4 o⟩
  · rcases hx hx' with ⟨rfl, rfl⟩ | ⟨hne, hx''⟩
    · refine ⟨hb, hnob, htc, fun e => (by rw [ha] at e; cases e), fun _ => hpos, fun _ => ⟨W.heap.size, c, T, ha, new, hc, fun o ho => ?_, fun b2 hb2 => absurd (h.lt_box hb2).2 (Nat.lt_irrefl _)⟩⟩
      show (G.fill W.heap.size 0 vs).imm W.heap.size o = none
      simp only [Ghost.fill]
      rw [if_neg (by omega)]
      exact h.imm_new o
    · have t := hs.tip b' x hx''
      refine ⟨hget b' _ hne t.st, t.nobox, t.le, t.none, t.pos, fun r => ?_⟩
      obtain ⟨B, c', T', h1, h2, h3, h4, h5⟩ := t.room r
      exact ⟨B, c', T', h1, h2, h3, fun o ho => by rw [other B (Nat.ne_of_lt (h.lt_tb (.inr ⟨b', x, hx'', r, h1⟩)))]; exact h4 o ho, h5⟩
  · rcases hx e1 with ⟨rfl, rfl⟩ | ⟨n1, k1⟩ <;> rcases hx e2 with ⟨rfl, rfl⟩ | ⟨n2, k2⟩
    · rfl
    · obtain ⟨B, q1, q2⟩ := Hdr.room_addr h k2 r2
      rw [ha, q1] at e; cases e; exact absurd (h.lt_tb q2) (Nat.lt_irrefl _)
    · obtain ⟨B, q1, q2⟩ := Hdr.room_addr h k1 r1
      rw [ha, q1] at e; cases e; exact absurd (h.lt_tb q2) (Nat.lt_irrefl _)
    · exact h.tinj b1 b2 x1 x2 k1 k2 r1 r2 e
  · obtain ⟨r1, r2, r3⟩ := h.res b' hb'
    have hne : b' ≠ b := by intro e; rw [e] at hb'; rw [show ((G.fill W.heap.size 0 vs).addHdr b d).res = G.res from rfl, hres] at hb'; cases hb'
    exact ⟨by omega, r2, by simp [Ghost.addHdr, hne, Ghost.fill, r3]⟩
  · rcases t with ⟨b', hb'⟩ | ⟨b', x, e, r, e'⟩
    · exact .inl ⟨b', hb'⟩
    · rcases hx e with ⟨rfl, rfl⟩ | ⟨_, k⟩
      · rw [ha] at e'; cases e'; exact absurd hB (Nat.lt_irrefl _)
      · exact .inr ⟨b', x, k, r, e'⟩
theorem Good.tipRoom (h : Sim G st W) {b : Nat} {d : Hdr} (hd : G.hdr b = some d) {m : Nat} (hm : 0 < m) (hroom : d.tip + m ≤ d.cap) {B : Nat} (ha : d.addr = some (B, 0))
    {c : Array Value} {T : TypeId} (hB : W.heap[B]? = some (.cells c T (0, 0))) (hc : d.cap * d.size ≤ c.size) (vs : List Value) (hl : vs.length = m * d.size) :
    Good G W ((G.fill B (d.tip * d.size) vs).addHdr b { d with tip := d.tip + m }) (st.set b [.tip (d.tip + m)])
      (W.setRow B (c.toList.take (d.tip * d.size) ++ vs ++ c.toList.drop (d.tip * d.size + vs.length)).toArray) := by
  have t := h.tip b d hd
  obtain ⟨B0, c0, T0, q1, q2, q3, q4, q5⟩ := t.room (by omega)
  rw [ha] at q1; cases q1
  rw [hB] at q2; cases q2
  have hbl : b < st.length := h.lt_hdr hd
  have hfit : d.tip * d.size + vs.length ≤ c.size := by
    rw [hl, ← Nat.add_mul]; exact Nat.le_trans (Nat.mul_le_mul_right _ hroom) hc
  have le : Le G ((G.fill B (d.tip * d.size) vs).addHdr b { d with tip := d.tip + m }) := ⟨fun _ _ _ e => G.fill_old q4 e, fun _ _ e => e, fun b' x e => by
    by_cases hbb : b' = b
    · subst hbb; rw [hd] at e; cases e; exact ⟨{ d with tip := d.tip + m }, by simp [Ghost.addHdr], ⟨Nat.le_add_right _ _, fun e => by have e' : d.tip = d.tip + m := e; omega, fun _ => rfl⟩⟩
    · exact ⟨x, by simp [Ghost.addHdr, hbb, Ghost.fill, e], .refl x⟩⟩
  have other : ∀ B', B' ≠ B → ∀ o, ((G.fill B (d.tip * d.size) vs).addHdr b { d with tip := d.tip + m }).imm B' o = G.imm B' o := fun B' hB' o => by
    simp only [Ghost.addHdr, Ghost.fill]; rw [if_neg]; rintro ⟨e, _⟩; exact hB' e
  have hx : ∀ {b' x}, ((G.fill B (d.tip * d.size) vs).addHdr b { d with tip := d.tip + m }).hdr b' = some x → (b' = b ∧ x = { d with tip := d.tip + m }) ∨ (b' ≠ b ∧ G.hdr b' = some x) := fun {b' x} e => by
    by_cases hbb : b' = b
    · subst hbb; simp only [Ghost.addHdr, if_true, Option.some.injEq] at e; exact .inl ⟨rfl, e.symm⟩
    · exact .inr ⟨hbb, by simpa [Ghost.addHdr, hbb, Ghost.fill] using e⟩
  have hnew := setRow_heap W B c (c.toList.take (d.tip * d.size) ++ vs ++ c.toList.drop (d.tip * d.size + vs.length)).toArray T (0, 0) hB
  have hold : ∀ k, k ≠ B → (W.setRow B (c.toList.take (d.tip * d.size) ++ vs ++ c.toList.drop (d.tip * d.size + vs.length)).toArray).heap[k]? = W.heap[k]? := fun k hk => setRow_other W B k _ hk
  have htb : TB G B := .inr ⟨b, d, hd, by omega, ha⟩
  have nb : ∀ {b' x}, b' ≠ b → G.hdr b' = some x → x.tip < x.cap → ∀ B', x.addr = some (B', 0) → B' ≠ B := fun {b' x} hne e r B' e' => by
    intro hBB; subst hBB
    exact hne (h.tinj b' b x d e hd r (by omega) (by rw [e', ha]))
  refine mkGood h ⟨fun B' o v e => ?_, fun b' hb' => ?_, fun b' B' hb' => ?_, h.inj, fun b' x hx' => ?_, fun b1 b2 x1 x2 e1 e2 r1 r2 e => ?_, baseOk_mono le.imm h.base, fun b' hb' => ?_⟩
    ⟨le.imm, by simp, fun B' _ hn => hold B' (fun e => hn (e ▸ htb)), fun B' _ hn o => other B' (fun e => hn (e ▸ htb)) o, fun B' _ t' => ?_, ⟨rfl, rfl, rfl⟩, rfl⟩ le (fun _ h => h)
  · rcases G.fill_inv (show (G.fill B (d.tip * d.size) vs).imm B' o = some v from e) with e2 | ⟨rfl, h1, e2⟩
    · clear e
      have e := e2
      clear e2
      by_cases hBB : B' = B
      · subst hBB
        obtain ⟨c', T', f', k1, k2⟩ := h.imm B' o v e
        rw [hB] at k1; cases k1
        have ho : o < d.tip * d.size := by
          rcases Nat.lt_or_ge o (d.tip * d.size) with h1 | h1
          · exact h1
          · rw [q4 o h1] at e; cases e
        refine ⟨_, T, (0, 0), hnew, ?_⟩
        simp only [List.getElem?_toArray]
        rw [List.append_assoc, List.getElem?_append_left (by simp; omega), List.getElem?_take_of_lt ho]
        simpa using k2
      · obtain ⟨c', T', f', k1, k2⟩ := h.imm B' o v e
        exact ⟨c', T', f', by rw [hold B' hBB]; exact k1, k2⟩
    · clear e
      have e := e2
      refine ⟨_, T, (0, 0), hnew, ?_⟩
      have h2 := (List.getElem?_eq_some_iff.1 e).1
      simp only [List.getElem?_toArray]
      have htl : (c.toList.take (d.tip * d.size)).length = d.tip * d.size := by simp; omega
      rw [List.append_assoc, List.getElem?_append_right (by rw [htl]; exact h1), htl, List.getElem?_append_left h2]
      exact e
  · have k := h.dom b' (by simpa using hb')
    have hne : b' ≠ b := by intro e; rw [e, hd] at k; cases k.2
    exact ⟨k.1, by simp [Ghost.addHdr, hne, Ghost.fill, k.2]⟩
  · have hne : b' ≠ b := by intro e; rw [e] at hb'; rw [show ((G.fill B (d.tip * d.size) vs).addHdr b { d with tip := d.tip + m }).box = G.box from rfl, t.nobox] at hb'; cases hb'
    obtain ⟨⟨cs, c', T', h1, h2, h3⟩, h4⟩ := h.box b' B' hb'
    have hBB : B' ≠ B := fun e => q5 b' (e ▸ hb')
    exact ⟨⟨cs, c', T', by rw [List.getElem?_set_ne (Ne.symm hne)]; exact h1, by rw [hold B' hBB]; exact h2, h3.le le⟩, fun o => by rw [other B' hBB]; exact h4 o⟩
  · rcases hx hx' with ⟨rfl, rfl⟩ | ⟨hne, hx''⟩
    · refine ⟨by simp [hbl], t.nobox, hroom, fun e => (by rw [show d.addr = none from e] at ha; cases ha), fun _ => Nat.add_pos_right _ hm, fun _ => ⟨B, _, T, ha, hnew, ?_, fun o ho => ?_, q5⟩⟩
      · simp only [List.size_toArray, List.length_append, List.length_take, List.length_drop, Array.length_toList]
        show d.cap * d.size ≤ _
        omega
      · have ho' : (d.tip + m) * d.size ≤ o := ho
        rw [Nat.add_mul, ← hl] at ho'
        show (G.fill B (d.tip * d.size) vs).imm B o = none
        simp only [Ghost.fill]
        rw [if_neg (by omega)]
        exact q4 o (by omega)
    · have t' := h.tip b' x hx''
      refine ⟨by rw [List.getElem?_set_ne (Ne.symm hne)]; exact t'.st, t'.nobox, t'.le, t'.none, t'.pos, fun r => ?_⟩
      obtain ⟨B', c', T', h1, h2, h3, h4, h5⟩ := t'.room r
      have hBB := nb hne hx'' r B' h1
      exact ⟨B', c', T', h1, by rw [hold B' hBB]; exact h2, h3, fun o ho => by rw [other B' hBB]; exact h4 o ho, h5⟩
  · rcases hx e1 with ⟨rfl, rfl⟩ | ⟨n1, k1⟩ <;> rcases hx e2 with ⟨rfl, rfl⟩ | ⟨n2, k2⟩
    · rfl
    · obtain ⟨B', q1', _⟩ := Hdr.room_addr h k2 r2
      exact absurd (show B' = B by have : some (B, 0) = some (B', 0) := by rw [← ha, ← q1']; exact e
                                   cases this; rfl) (nb n2 k2 r2 B' q1')
    · obtain ⟨B', q1', _⟩ := Hdr.room_addr h k1 r1
      exact absurd (show B' = B by have : some (B', 0) = some (B, 0) := by rw [← ha, ← q1']; exact e
                                   cases this; rfl) (nb n1 k1 r1 B' q1')
    · exact h.tinj b1 b2 x1 x2 k1 k2 r1 r2 e
  · obtain ⟨s1, s2, s3⟩ := h.res b' hb'
    have hne : b' ≠ b := by intro e; rw [e, hd] at s3; cases s3
    exact ⟨by simpa using s1, s2, by simp [Ghost.addHdr, hne, Ghost.fill, s3]⟩
  · rcases t' with ⟨b', hb'⟩ | ⟨b', x, e, r, e'⟩
    · exact .inl ⟨b', hb'⟩
    · rcases hx e with ⟨rfl, rfl⟩ | ⟨_, k⟩
      · exact .inr ⟨b', d, hd, by have r' : d.tip + m < d.cap := r; omega, e'⟩
      · exact .inr ⟨b', x, k, r, e'⟩
end Go.Abs
