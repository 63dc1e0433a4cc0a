/- Code, results, whole runs: what the abstract interpreter says, the machine does. -/
import Derived.Test.YtpmeklllgnnffaaGreatDoorR7
import Derived.LoopN
set_option linter.unusedSimpArgs false
set_option linter.unusedVariables false

namespace Go.Abs
open Go
variable {P : Program} {G : Ghost} {st : St} {W : World}
theorem dropT_reps (ts : List Nat) : ∀ {env : Env} {vs : List Value} (i : Nat), Reps G env vs → Reps G (dropT ts i env) vs
  | [], _, _, h => h
  | v :: r, _, i, h => by
    obtain ⟨u, us, rfl, h1, h2⟩ := h
    refine ⟨u, us, rfl, ?_, dropT_reps ts (i + 1) h2⟩
    cases ts.contains i
    · exact h1
    · trivial
theorem clean_reps {n : Nat} : ∀ {env : Env} {vs : List Value}, Reps G env vs → Reps (G.cut n) (env.map (cleanV n)) vs
  | [], _, h => h
  | v :: r, _, h => by
    obtain ⟨u, us, rfl, h1, h2⟩ := h
    refine ⟨u, us, rfl, ?_, clean_reps h2⟩
    unfold cleanV
    split
    · rename_i hc
      exact h1.cut fun b hb => by have := List.all_eq_true.1 hc b hb; simpa using this
    · trivial
theorem gc_env {G0 : Ghost} {st0 : St} {W0 : World} (s0 : Sim G0 st0 W0) (g : Good G0 W0 G st W) {env : Env} {vs : List Value} {ws : List V} {st' : St} (he : Reps G env vs) (hlt : ∀ b ∈ refsL env, b < st0.length) (hl : gc st0.length [] st = some (ws, st')) :
    ∃ G', Good G0 W0 G' st' W ∧ Reps G' env vs := by
  unfold gc at hl
  simp only at hl
  generalize reach st reachFuel (refsL [] ++ refsL (st.take st0.length).flatten) (List.range st0.length) = seen at hl
  split at hl
  · rename_i hc
    simp only [Bool.and_eq_true, beq_iff_eq] at hc
    obtain ⟨⟨⟨k1, k2⟩, k3⟩, k4⟩ := hc
    have hR := closed_of k1 k2
    have hget : ∀ b, b < st0.length → seen[b]? = some b := fun b hb => by
      have : (seen.take st0.length)[b]? = some b := by rw [k4]; simp [hb]
      rwa [List.getElem?_take_of_lt hb] at this
    have hvs : ∀ b ∈ refsL env, b ∈ seen := fun b hb => List.mem_of_getElem? (hget b (hlt b hb))
    split at hl
    · rename_i hlen
      cases hl
      have hseen : seen = List.range st0.length := by rw [← k4, ← hlen, List.take_length]
      have hlt' : ∀ b ∈ seen, b < st0.length := fun b hb => by rw [hseen] at hb; simpa using hb
      exact ⟨G.cut st0.length, ⟨g.sim.cut fun b hb r hr => hlt' r (hR.sub b (by rw [hseen]; simpa using hb) r hr), g.ext.cut _, g.le.cut s0 (Nat.le_refl _), fun b hb => by have := (s0.res b hb).1; simp [Ghost.cut, this, g.res b hb]⟩, he.cut hlt⟩
    · cases hl
      refine ⟨G.sub seen, ⟨g.sim.sub hR, ⟨g.ext.imm, g.ext.size, g.ext.keep, g.ext.immK, fun B hB t => g.ext.tb B hB (sub_tb t), g.ext.env, g.ext.fix⟩, ⟨g.le.imm, fun b B e => ?_, fun b d e => ?_⟩, fun b hb => ?_⟩, ?_⟩
      · have := (s0.lt_box e).1
        simp [Ghost.sub, hget b this, g.le.box b B e]
      · have := s0.lt_hdr e
        obtain ⟨d', e', l⟩ := g.le.hdr b d e
        exact ⟨d', by simp [Ghost.sub, hget b this, e'], l⟩
      · have := (s0.res b hb).1
        simp [Ghost.sub, hget b this, g.res b hb]
      · have hr := Reps.tr _ _ (Tr.sub hvs) he
        rwa [renL_id (seen.idxOf ·) env (fun b hb => by
          obtain ⟨h1, h2⟩ := List.getElem?_eq_some_iff.1 (hget b (hlt b hb))
          have := hR.nd.idxOf_getElem b h1
          rw [h2] at this; exact this)] at hr
  · cases hl
theorem clean_lt {n : Nat} : ∀ {env : Env}, ∀ b ∈ refsL (env.map (cleanV n)), b < n
  | [], b, hb => by simp [refsL] at hb
  | v :: r, b, hb => by
    simp only [List.map_cons, refsL, List.mem_append] at hb
    rcases hb with hb | hb
    · unfold cleanV at hb
      split at hb
      · rename_i hc
        have := List.all_eq_true.1 hc b hb
        simpa using this
      · simp [refs] at hb
    · exact clean_lt b hb
theorem clean_reps0 {n : Nat} : ∀ {env : Env} {vs : List Value}, Reps G env vs → Reps G (env.map (cleanV n)) vs
  | [], _, h => h
  | v :: r, _, h => by
    obtain ⟨u, us, rfl, h1, h2⟩ := h
    refine ⟨u, us, rfl, ?_, clean_reps0 h2⟩
    unfold cleanV
    split
    · exact h1
    · trivial
theorem roundEnd_sound {G0 : Ghost} {st0 : St} {W0 : World} (s0 : Sim G0 st0 W0) (g : Good G0 W0 G st W) {env : Env} {vs : List Value} (he : Reps G env vs) (ts : List Nat) :
    ∃ G', Good G0 W0 G' (roundEnd ts st0.length env st).2 W ∧ Reps G' (roundEnd ts st0.length env st).1 vs := by
  unfold roundEnd
  have hd := dropT_reps ts 0 he
  split
  · rename_i hc
    refine ⟨G.cut st0.length, ⟨g.sim.cut fun b hb r hr => ?_, g.ext.cut _, g.le.cut s0 (Nat.le_refl _), fun b hb => by have := (s0.res b hb).1; simp [Ghost.cut, this, g.res b hb]⟩, clean_reps hd⟩
    rw [List.all_eq_true] at hc
    cases hx : st[b]? with
    | none => simp [List.getD, hx, refsL] at hr
    | some cs =>
      have hm : cs ∈ st.take st0.length := List.mem_of_getElem? (by rw [List.getElem?_take_of_lt hb]; exact hx)
      have := List.all_eq_true.1 (hc cs hm) r (by simpa [List.getD, hx] using hr)
      simpa using this
  · split
    · rename_i ws st' hgc
      exact gc_env s0 g (clean_reps0 hd) clean_lt hgc
    · exact ⟨G, g, hd⟩
theorem Sim.weak (h : Sim G st W) {b : Nat} {cs cs' : List V} (hs : st[b]? = some cs) (hh : G.hdr b = none) (hw : ∀ c, Reps G cs c → Reps G cs' c) : Sim G (st.set b cs') W := by
  have hbl : b < st.length := (List.getElem?_eq_some_iff.1 hs).1
  refine ⟨⟨h.imm, fun b' hb' => h.dom b' (by simpa using hb'), fun b' B' hb' => ?_, h.inj, fun b' d hd => ?_, h.tinj, h.base, fun b' hb' => by obtain ⟨r1, r2⟩ := h.res b' hb'; exact ⟨by simpa using r1, r2⟩⟩, h.fix⟩
  · obtain ⟨⟨cs2, c2, T2, k1, k2, k3⟩, k4⟩ := h.box b' B' hb'
    by_cases hbb : b' = b
    · subst hbb
      rw [hs] at k1; cases k1
      exact ⟨⟨cs', c2, T2, by simp [hbl], k2, hw _ k3⟩, k4⟩
    · exact ⟨⟨cs2, c2, T2, by rw [List.getElem?_set_ne (Ne.symm hbb)]; exact k1, k2, k3⟩, k4⟩
  · have hne : b' ≠ b := by rintro rfl; rw [hh] at hd; cases hd
    have t := h.tip b' d hd
    exact ⟨by rw [List.getElem?_set_ne (Ne.symm hne)]; exact t.st, t.nobox, t.le, t.none, t.pos, t.room⟩
structure Coin (ops : Array Oper) (t x y : Nat) : Prop where
  size : ops.size = 4
  a : ∃ ty pos af, ops[0]? = some ⟨some x, .alloc t, ty, pos, af, none⟩
  b : ∃ ty pos af v, ops[1]? = some ⟨none, .store t (.tmp x) (.const (.bool v)), ty, pos, af, none⟩
  c : ∃ ty pos af v, ops[2]? = some ⟨none, .store t (.tmp x) (.const (.bool v)), ty, pos, af, none⟩
  d : ∃ ty pos af, ops[3]? = some ⟨some y, .load t (.tmp x), ty, pos, af, none⟩
  lt : ∀ (j : Nat) o, ops[j]? = some o → ∀ e ∈ o.after, Region.binds .any e = true → e.on < j
  ne : x ≠ y
  zero : ∀ (j : Nat) o, 0 < j → ops[j]? = some o → ∃ e ∈ o.after, Region.binds .any e = true ∧ e.on = 0
theorem afterB_spec {j : Nat} {af : Array Edge} (h : afterB j af = true) : (∀ e ∈ af, Region.binds .any e = true → e.on < j) ∧ (0 < j → ∃ e ∈ af, Region.binds .any e = true ∧ e.on = 0) := by
  unfold afterB at h
  rw [Bool.and_eq_true, List.all_eq_true, Bool.or_eq_true] at h
  obtain ⟨h1, h2⟩ := h
  refine ⟨fun e he hb => ?_, fun hj => ?_⟩
  · have := h1 e (List.mem_filter.2 ⟨by simpa using he, hb⟩)
    simpa using this
  · rcases h2 with h2 | h2
    · have : j = 0 := by simpa using h2
      omega
    · rw [List.any_eq_true] at h2
      obtain ⟨e, he, h0⟩ := h2
      obtain ⟨k1, k2⟩ := List.mem_filter.1 he
      exact ⟨e, by simpa using k1, k2, by simpa using h0⟩
theorem coinS_spec {t x j : Nat} {o : Oper} (h : coinS t x j o = true) : ∃ ty pos af v, o = ⟨none, .store t (.tmp x) (.const (.bool v)), ty, pos, af, none⟩ ∧ afterB j af = true := by
  unfold coinS at h
  split at h
  · simp only [Bool.and_eq_true, beq_iff_eq] at h
    obtain ⟨⟨rfl, rfl⟩, h3⟩ := h
    exact ⟨_, _, _, _, rfl, h3⟩
  · cases h
theorem coin_spec {ops : Array Oper} {t x y : Nat} (h : coinL ops.toList = some (t, x, y)) : Coin ops t x y := by
  obtain ⟨l⟩ := ops
  simp only at h
  match l, h with
  | [a, b, c, d], h =>
    simp only [coinL, coin4] at h
    split at h
    · unfold coinV at h
      split at h
      · split at h
        · rename_i hc
          simp only [Bool.and_eq_true, beq_iff_eq] at hc
          obtain ⟨⟨⟨⟨⟨⟨h0, rfl⟩, rfl⟩, h3⟩, h1⟩, h2⟩, hne⟩ := hc
          cases h
          obtain ⟨ty1, pos1, af1, v1, rfl, h1'⟩ := coinS_spec h1
          obtain ⟨ty2, pos2, af2, v2, rfl, h2'⟩ := coinS_spec h2
          refine ⟨rfl, ⟨_, _, _, rfl⟩, ⟨_, _, _, _, rfl⟩, ⟨_, _, _, _, rfl⟩, ⟨_, _, _, rfl⟩, fun j o ho => ?_, by simpa using hne, fun j o hj ho => ?_⟩
          · match j, ho with
            | 0, ho => cases ho; exact (afterB_spec h0).1
            | 1, ho => cases ho; exact (afterB_spec h1').1
            | 2, ho => cases ho; exact (afterB_spec h2').1
            | 3, ho => cases ho; exact (afterB_spec h3).1
            | j + 4, ho => simp at ho
          · match j, hj, ho with
            | 1, hj, ho => cases ho; exact (afterB_spec h1').2 hj
            | 2, hj, ho => cases ho; exact (afterB_spec h2').2 hj
            | 3, hj, ho => cases ho; exact (afterB_spec h3).2 hj
            | j + 4, _, ho => simp at ho
        · cases h
      · cases h
    · cases h
  | [], h => cases h
  | [_], h => cases h
  | [_, _], h => cases h
  | [_, _, _], h => cases h
  | _ :: _ :: _ :: _ :: _ :: _, h => cases h
structure InvC (G0 : Ghost) (W0 : World) (st0 : St) (env0 : Env) (x y : Nat) (listed : Array Bool) (a : Act) (w : World) : Prop where
  size : listed.size = 4
  defers : a.defers = []
  cur : ∃ G env, Reps G env a.tmps.toList ∧ ((listed.getD 0 false = false ∧ listed.getD 3 false = false ∧ env = env0 ∧ Good G0 W0 G st0 w) ∨
    (listed.getD 0 false = true ∧ Good G0 W0 G (st0 ++ [[.tip 0]]) w ∧ G.hdr st0.length = none ∧
      ((listed.getD 3 false = false ∧ env = env0.set x (.box st0.length 0)) ∨ (listed.getD 3 false = true ∧ env = (env0.set x (.box st0.length 0)).set y (.tip 0)))))
theorem app_set {st0 : St} {a b : List V} : (st0 ++ [a]).set st0.length b = st0 ++ [b] := by
  rw [List.set_append_right _ _ (Nat.le_refl _)]; simp
theorem coin_sound (hm : P.follows .mixedOrders = true) {cl : Oracle} (hcl : Sound P cl) {id : Nat} {ops : Array Oper} {G0 : Ghost} {st0 : St} {W0 : World} {a0 : Act} {env0 : Env} {ex : Ex} {env' : Env} {st' : St} {q : Nat × Nat × Nat}
    (h : Sim G0 st0 W0) (he : Reps G0 env0 a0.tmps.toList) (hd : a0.defers = []) (hq : coinL ops.toList = some q) (hl : coinR P q env0 st0 = some (ex, env', st')) :
    (Code.region id ops true).wp P (ExPost G0 W0 ex env' st') a0 W0 := by
  obtain ⟨t, x, y⟩ := q
  have C := coin_spec hq
  unfold coinR at hl
  simp only at hl
  split at hl
  case isFalse => cases hl
  rename_i hT
  unfold coinT at hT
  split at hT
  case h_2 => cases hT
  rename_i bytes eqOk old hti hx
  simp only [Option.some.injEq, Prod.mk.injEq] at hl
  obtain ⟨rfl, rfl, rfl⟩ := hl
  have hxl : x < env0.length := (List.getElem?_eq_some_iff.1 hx).1
  refine wp_region_any hm ?_
  have g0 : Good G0 W0 G0 st0 { W0 with drawn := W0.drawn + 1 } := (Good.refl h).of_heap rfl ⟨rfl, rfl, rfl⟩
  have key : ∀ (fuel : Nat) (listed : Array Bool) (a : Act) (w : World), cntU listed ops.size ≤ fuel → InvC G0 W0 st0 env0 x y listed a w →
      wpAny P .any ops (ExPost G0 W0 .normal ((env0.set x (.box st0.length 0)).set y (.tip 0)) (st0 ++ [[.tip 0]])) fuel listed a w := by
    have done : ∀ (listed : Array Bool) (a : Act) (w : World), InvC G0 W0 st0 env0 x y listed a w → Region.ready .any ops listed = [] → ExPost G0 W0 .normal ((env0.set x (.box st0.length 0)).set y (.tip 0)) (st0 ++ [[.tip 0]]) .normal a w := by
      intro listed a w I hr
      have all : ∀ j, j < ops.size → listed.getD j false = true := by
        intro j
        induction j using Nat.strongRecOn with
        | _ j ih =>
          intro hj
          cases hlj : listed.getD j false with
          | true => rfl
          | false =>
            have hin : j ∈ Region.ready .any ops listed := by
              rw [mem_ready]
              have hjs : j < listed.size := by rw [I.size, ← C.size]; exact hj
              refine ⟨by simp [hjs] at hlj ⊢; exact hlj, ops[j], by simp [hj], fun e hem hb => ?_⟩
              have hlt := C.lt j _ (by simp [hj]) e hem hb
              exact ih e.on hlt (by omega)
            rw [hr] at hin; cases hin
      obtain ⟨G, env, her, hc⟩ := I.cur
      have h0 := all 0 (by rw [C.size]; omega)
      have h3 := all 3 (by rw [C.size]; omega)
      rcases hc with ⟨k0, _⟩ | ⟨_, g, _, ⟨k3, _⟩ | ⟨_, rfl⟩⟩
      · rw [h0] at k0; cases k0
      · rw [h3] at k3; cases k3
      · exact ⟨G, g, I.defers, rfl, her⟩
    intro fuel
    induction fuel with
    | zero =>
      intro listed a w hcnt I
      have all := cntU_zero (Nat.le_zero.1 hcnt)
      have hr : Region.ready .any ops listed = [] := by
        cases hrr : Region.ready .any ops listed with
        | nil => rfl
        | cons i xs =>
          obtain ⟨r1, o, r2, _⟩ := mem_ready.1 (show i ∈ Region.ready .any ops listed by rw [hrr]; simp)
          have hi : i < ops.size := (Array.getElem?_eq_some_iff.1 r2).1
          have := all i hi
          have hs : i < listed.size := by rw [I.size, ← C.size]; exact hi
          simp [hs] at r1 this
          rw [r1] at this; cases this
      exact ⟨hr, done listed a w I hr⟩
    | succ fuel ih =>
      intro listed a w hcnt I
      refine ⟨done listed a w I, fun i hi => ?_⟩
      obtain ⟨r1, o, ho, r3⟩ := mem_ready.1 hi
      have hil : i < ops.size := (Array.getElem?_eq_some_iff.1 ho).1
      have hs : i < listed.size := by rw [I.size, ← C.size]; exact hil
      have r2 : listed.getD i false = false := by simp [hs] at r1 ⊢; exact r1
      have hcnt' : cntU (listed.setIfInBounds i true) ops.size ≤ fuel := by
        have := cntU_set r2 hs (m := ops.size)
        rw [if_pos hil] at this; omega
      have hset : ∀ j, j ≠ i → (listed.setIfInBounds i true).getD j false = listed.getD j false := fun j hj => getD_set_ne false (Ne.symm hj)
      have hself : (listed.setIfInBounds i true).getD i false = true := (set_listed hs).2 (.inl rfl)
      obtain ⟨G, env, her, hc⟩ := I.cur
      have step : ∀ {o : Oper} {st st' : St} {v : V} {fp : Fp} {K : Act → World → Prop}, ops[i]? = some o → o.guard = none → Good G0 W0 G st w → stepD P cl (opv env) o st = some (.val v st', fp) →
          (∀ G' W' u, Good G0 W0 G' st' W' → Le G G' → Rep G' v u → K (a.put o.dst u) W') → wpOp P ops (ExPost G0 W0 .normal ((env0.set x (.box st0.length 0)).set y (.tip 0)) (st0 ++ [[.tip 0]])) i K a w := by
        intro o st st' v fp K ho hg g hst hk
        unfold wpOp
        rw [ho]
        simp only
        have hw1 := want_sound (ops := ops) her (o := o) (b := true) (by rw [hg]; rfl)
        rw [hw1]
        simp only [if_true]
        refine .inl ?_
        exact stepD_sound hcl g.sim her hst fun G' W' u g' hr => hk G' W' u (g.trans g') g'.le hr
      have weak : ∀ {G' : Ghost} {w' : World} {b : Bool}, Good G0 W0 G' (st0 ++ [[.bool b]]) w' → G'.hdr st0.length = none → Good G0 W0 G' (st0 ++ [[.tip 0]]) w' := fun {G' w' b} g hh => by
        have := g.sim.weak (b := st0.length) (cs := [.bool b]) (cs' := [.tip 0]) (by simp) hh (fun c hc => by
          obtain ⟨u, r, rfl, h1, h2⟩ := hc
          exact ⟨u, r, rfl, ⟨b, h1⟩, h2⟩)
        rw [app_set] at this
        exact ⟨this, g.ext, g.le, g.res⟩
      have nohdr : ∀ {G' : Ghost} {u : Value} {s : St} {w' : World}, Sim G' s w' → Rep G' (.box st0.length 0) u → G'.hdr st0.length = none := fun {G' u s w'} hs hr => by
        obtain ⟨B, hb, _⟩ := hr
        cases hh : G'.hdr st0.length with
        | none => rfl
        | some d => have := (hs.tip _ d hh).nobox; rw [hb] at this; cases this
      have hi4 : i < 4 := by rw [← C.size]; exact hil
      have getx : ∀ {v : V}, (env0.set x v).getD x .undef = v := fun {v} => by simp [List.getD, hxl]
      by_cases hi0 : i = 0
      · -- it is made
        subst hi0
        obtain ⟨ty, pos, af, h0⟩ := C.a
        rcases hc with ⟨k0, k3, rfl, g⟩ | ⟨k0, _⟩
        · refine step h0 rfl g (v := .box st0.length 0) (st' := st0 ++ [[.bool false]]) (fp := ⟨none, some ([], st0.length)⟩) ?_ fun G' W' u g' hle hr => ?_
          · simp only [stepD, opStep, hti, adoptZ, adopt, vcells, List.length_singleton, if_true]
          · have hh := nohdr g'.sim hr
            refine ih _ _ _ hcnt' ⟨by simp [I.size], by rw [put_defers]; exact I.defers, G', _, reps_put (her.le hle) hr, .inr ⟨hself, weak g' hh, hh, .inl ⟨by rw [hset 3 (by omega)]; exact k3, rfl⟩⟩⟩
        · rw [r2] at k0; cases k0
      · have h0l : listed.getD 0 false = true := by
          obtain ⟨e, he, hb, h0⟩ := C.zero i o (by omega) ho
          have := r3 e he hb
          rw [h0] at this; exact this
        rcases hc with ⟨k0, _⟩ | ⟨_, g, hh, hc⟩
        · rw [h0l] at k0; cases k0
        · have hx' : opv env (.tmp x) = .box st0.length 0 := by
            rcases hc with ⟨_, rfl⟩ | ⟨_, rfl⟩
            · exact getx
            · show ((env0.set x _).set y _).getD x .undef = _
              rw [List.getD_eq_getElem?_getD, List.getElem?_set_ne C.ne.symm, ← List.getD_eq_getElem?_getD]
              exact getx
          have store : ∀ {ty : TypeId} {pos : String} {af : Array Edge} {v : Bool}, i ≠ 3 → ops[i]? = some ⟨none, .store t (.tmp x) (.const (.bool v)), ty, pos, af, none⟩ →
              wpOp P ops (ExPost G0 W0 .normal ((env0.set x (.box st0.length 0)).set y (.tip 0)) (st0 ++ [[.tip 0]])) i (wpAny P .any ops (ExPost G0 W0 .normal ((env0.set x (.box st0.length 0)).set y (.tip 0)) (st0 ++ [[.tip 0]])) fuel (listed.setIfInBounds i true)) a w := by
            intro ty pos af v hi3 ho
            refine step ho rfl g (v := .tup []) (st' := st0 ++ [[.bool v]]) (fp := ⟨none, some ((fpRead (.box st0.length 0)).toList, (st0 ++ [[V.tip 0]]).length)⟩) ?_ fun G' W' u g' hle hr => ?_
            · have hic : iceT t (.bool v) = .bool v := by unfold iceT; split <;> rfl
              have hop : opv env (.const (.bool v)) = .bool v := rfl
              simp only [stepD, hx', hop, storeV, hic, storeW, hti, adopt, vcells, cellOk, overlay]
              simp [cellOk]
            · have hh' : G'.hdr st0.length = none := by
                cases hc' : G'.hdr st0.length with
                | none => rfl
                | some d =>
                  have hb : Rep G (.box st0.length 0) (a.eval (.tmp x)) := by rw [← hx']; exact opv_sound her (.tmp x)
                  obtain ⟨B, hb, _⟩ := hb
                  have := (g'.sim.tip _ d hc').nobox
                  rw [hle.box _ _ hb] at this; cases this
              exact ih _ _ _ hcnt' ⟨by simp [I.size], by rw [put_defers]; exact I.defers, G', env, her.le hle, .inr ⟨by rw [hset 0 (Ne.symm hi0)]; exact h0l, weak g' hh', hh', by rw [hset 3 (Ne.symm hi3)]; exact hc⟩⟩
          have hcase : i = 1 ∨ i = 2 ∨ i = 3 := by omega
          rcases hcase with h1 | h2 | h3
          · subst h1; obtain ⟨ty, pos, af, v, h1⟩ := C.b; exact store (by omega) h1
          · subst h2; obtain ⟨ty, pos, af, v, h2⟩ := C.c; exact store (by omega) h2
          · subst h3
            obtain ⟨ty, pos, af, h3⟩ := C.d
            rcases hc with ⟨_, rfl⟩ | ⟨k3, _⟩
            · refine step h3 rfl g (v := .tip 0) (st' := st0 ++ [[.tip 0]]) (fp := ⟨fpRead (.box st0.length 0), none⟩) ?_ fun G' W' u g' hle hr => ?_
              · simp only [stepD, hx', loadV, hti, cellsAt, takeV, D.isAgg]
                simp
              · have hh' : G'.hdr st0.length = none := by
                  cases hc' : G'.hdr st0.length with
                  | none => rfl
                  | some d =>
                    have hb : Rep G (.box st0.length 0) (a.eval (.tmp x)) := by rw [← hx']; exact opv_sound her (.tmp x)
                    obtain ⟨B, hb, _⟩ := hb
                    have := (g'.sim.tip _ d hc').nobox
                    rw [hle.box _ _ hb] at this; cases this
                exact ih _ _ _ hcnt' ⟨by simp [I.size], by rw [put_defers]; exact I.defers, G', _, reps_put (her.le hle) hr, .inr ⟨by rw [hset 0 (by omega)]; exact h0l, g', hh', .inr ⟨hself, rfl⟩⟩⟩
            · rw [r2] at k3; cases k3
  refine key ops.size _ a0 _ ?_ ⟨by simp [C.size], hd, G0, env0, he, .inl ⟨getD_replicate_false' _ _, getD_replicate_false' _ _, rfl, g0⟩⟩
  have : ∀ m, cntU (Array.replicate ops.size false) m ≤ m := by
    intro m
    induction m with
    | zero => simp [cntU]
    | succ m ih => simp only [cntU]; split <;> omega
  exact this _
theorem meet_left {G : Ghost} : ∀ {a b : Env} {vs : List Value}, a.length = b.length → Reps G a vs → Reps G (meetE a b) vs
  | [], [], _, _, h => h
  | a :: x, b :: y, _, hl, h => by
    obtain ⟨u, us, rfl, h1, h2⟩ := h
    refine ⟨u, us, rfl, ?_, meet_left (by simpa using hl) h2⟩
    unfold meetV
    split
    · exact h1
    · trivial
theorem meet_right {G : Ghost} : ∀ {a b : Env} {vs : List Value}, a.length = b.length → Reps G b vs → Reps G (meetE a b) vs
  | [], [], _, _, h => h
  | a :: x, b :: y, _, hl, h => by
    obtain ⟨u, us, rfl, h1, h2⟩ := h
    refine ⟨u, us, rfl, ?_, meet_right (by simpa using hl) h2⟩
    unfold meetV
    split
    · rename_i e; rw [e]; exact h1
    · trivial
theorem exec_sound (hm : P.follows .mixedOrders = true) {cl : Oracle} (hcl : Sound P cl) {k : Nat} : ∀ (c : Code) {G : Ghost} {st : St} {W : World} {a : Act} {env : Env} {ex : Ex} {env' : Env} {st' : St},
    Sim G st W → Reps G env a.tmps.toList → a.defers = [] → exec P cl k c env st = some (ex, env', st') → c.wp P (ExPost G W ex env' st') a W := by
  intro c
  induction c with
  | skip =>
    intro G st W a env ex env' st' h he hd hl
    simp only [exec, Option.some.injEq, Prod.mk.injEq] at hl
    obtain ⟨rfl, rfl, rfl⟩ := hl
    exact wp_skip ⟨G, .refl h, hd, rfl, he⟩
  | region id ops draw =>
    intro G st W a env ex env' st' h he hd hl
    cases draw with
    | true =>
      simp only [exec, regionC] at hl
      cases hq : coinL ops.toList with
      | some q => rw [hq] at hl; exact coin_sound hm hcl h he hd hq hl
      | none => rw [hq] at hl; exact regionD_sound hm hcl h he hd hl
    | false =>
      simp only [exec] at hl
      exact wp_region_list (regionL_sound hcl ops.toList h he hd hl)
  | seq x y ihx ihy =>
    intro G st W a env ex env' st' h he hd hl
    simp only [exec] at hl
    refine wp_seq ?_
    cases hx : exec P cl k x env st with
    | none => simp [hx] at hl
    | some p =>
      obtain ⟨ex1, env1, st1⟩ := p
      refine wp_mono (ihx h he hd hx) fun e a' W' hp => ?_
      cases ex1 with
      | normal =>
        simp only [hx] at hl
        obtain ⟨G1, g1, hd1, rfl, he1⟩ := hp
        exact wp_mono (ihy g1.sim he1 hd1 hl) fun e a' W' q => ExPost.trans g1 q
      | exit i =>
        simp only [hx, Option.some.injEq, Prod.mk.injEq] at hl
        obtain ⟨rfl, rfl, rfl⟩ := hl
        have hp' := hp
        obtain ⟨G1, g1, hd1, rfl, he1⟩ := hp
        exact hp'
      | ret =>
        simp only [hx, Option.some.injEq, Prod.mk.injEq] at hl
        obtain ⟨rfl, rfl, rfl⟩ := hl
        have hp' := hp
        obtain ⟨G1, g1, hd1, rfl, he1⟩ := hp
        exact hp'
      | panic v =>
        simp only [hx, Option.some.injEq, Prod.mk.injEq] at hl
        obtain ⟨rfl, rfl, rfl⟩ := hl
        have hp' := hp
        obtain ⟨G1, g1, hd1, u, rfl, he1⟩ := hp
        exact hp'
  | cond c x y ihx ihy =>
    intro G st W a env ex env' st' h he hd hl
    simp only [exec] at hl
    have hc := opv_sound he c
    cases hcv : opv env c <;> simp only [hcv, reduceCtorEq] at hl
    case bool b =>
      rw [hcv] at hc
      simp only [Rep] at hc
      cases b with
      | true => exact wp_cond_true hc (ihx h he hd hl)
      | false => exact wp_cond_false hc (ihy h he hd hl)
    case tip m =>
      rw [hcv] at hc
      simp only [Rep] at hc
      obtain ⟨b, hb⟩ := hc
      have arm : ∀ {ex1 : Ex} {e1 : Env} {s1 : St}, armW (armOf x) (fun A => armX P cl A env st) (exec P cl k x env st) = some (ex1, e1, s1) → x.wp P (ExPost G W ex1 e1 s1) a W := fun {ex1 e1 s1} hq => by
        cases hA : armOf x with
        | some A => rw [hA] at hq; exact arm_sound hcl hA h he hd hq
        | none => rw [hA] at hq; exact ihx h he hd hq
      unfold joinR at hl
      split at hl
      · rename_i e1 s1 e2 s2 h1 h2
        split at hl
        · rename_i hlen
          cases hl
          cases b with
          | true =>
            refine wp_cond_true hb (wp_mono (arm h1) fun e a' W' hp => ?_)
            obtain ⟨G1, g1, hd1, rfl, he1⟩ := hp
            exact ⟨G1, g1, hd1, rfl, meet_left hlen.2 he1⟩
          | false =>
            refine wp_cond_false hb (wp_mono (ihy h he hd h2) fun e a' W' hp => ?_)
            obtain ⟨G1, g1, hd1, rfl, he1⟩ := hp
            exact ⟨G1, by rw [hlen.1]; exact g1, hd1, rfl, meet_right hlen.2 he1⟩
        · cases hl
      · cases hl
  | block id x ihx =>
    intro G st W a env ex env' st' h he hd hl
    simp only [exec] at hl
    refine wp_block ?_
    cases hx : exec P cl k x env st with
    | none => simp [hx] at hl
    | some p =>
      obtain ⟨ex1, env1, st1⟩ := p
      refine wp_mono (ihx h he hd hx) fun e a' W' hp => ?_
      cases ex1 with
      | exit i =>
        simp only [hx] at hl
        obtain ⟨G1, g1, hd1, rfl, he1⟩ := hp
        by_cases hi : i = id
        · simp only [hi, if_true, Option.some.injEq, Prod.mk.injEq] at hl
          obtain ⟨rfl, rfl, rfl⟩ := hl
          simp only [Exit.inBlock, hi, if_true]
          exact ⟨G1, g1, hd1, rfl, he1⟩
        · simp only [hi, if_false, Option.some.injEq, Prod.mk.injEq] at hl
          obtain ⟨rfl, rfl, rfl⟩ := hl
          simp only [Exit.inBlock, hi, if_false]
          exact ⟨G1, g1, hd1, rfl, he1⟩
      | normal =>
        simp only [hx, Option.some.injEq, Prod.mk.injEq] at hl
        obtain ⟨rfl, rfl, rfl⟩ := hl
        have hp' := hp
        obtain ⟨G1, g1, hd1, rfl, he1⟩ := hp
        exact hp'
      | ret =>
        simp only [hx, Option.some.injEq, Prod.mk.injEq] at hl
        obtain ⟨rfl, rfl, rfl⟩ := hl
        have hp' := hp
        obtain ⟨G1, g1, hd1, rfl, he1⟩ := hp
        exact hp'
      | panic v =>
        simp only [hx, Option.some.injEq, Prod.mk.injEq] at hl
        obtain ⟨rfl, rfl, rfl⟩ := hl
        have hp' := hp
        obtain ⟨G1, g1, hd1, u, rfl, he1⟩ := hp
        exact hp'
  | loop x ihx =>
    intro G0 st0 W0 a env ex env' st' h0 he hd hl
    simp only [exec] at hl
    refine wp_loop_rounds k ?_
    have key : ∀ (j : Nat) {G : Ghost} {st : St} {W : World} {a : Act} {env : Env}, Good G0 W0 G st W → Reps G env a.tmps.toList → a.defers = [] →
        loopN (exec P cl k x) (temps x) st0.length j env st = some (ex, env', st') → Code.rounds P x (ExPost G0 W0 ex env' st') j a W := by
      intro j
      induction j with
      | zero => intro G st W a env _ _ _ hl; simp [loopN] at hl
      | succ j ih =>
        intro G st W a env g he hd hl
        rw [rounds_succ]
        simp only [loopN] at hl
        cases hx : exec P cl k x env st with
        | none => simp [hx] at hl
        | some p =>
          obtain ⟨ex1, env1, st1⟩ := p
          refine wp_mono (ihx g.sim he hd hx) fun e a' W' hp => ?_
          cases ex1 with
          | normal =>
            simp only [hx] at hl
            obtain ⟨G1, g1, hd1, rfl, he1⟩ := hp
            obtain ⟨G2, g2, he2⟩ := roundEnd_sound h0 (g.trans g1) he1 (temps x)
            exact ih g2 he2 hd1 hl
          | exit i =>
            simp only [hx, Option.some.injEq, Prod.mk.injEq] at hl
            obtain ⟨rfl, rfl, rfl⟩ := hl
            have hp' := ExPost.trans g hp
            obtain ⟨G1, g1, hd1, rfl, he1⟩ := hp
            exact hp'
          | ret =>
            simp only [hx, Option.some.injEq, Prod.mk.injEq] at hl
            obtain ⟨rfl, rfl, rfl⟩ := hl
            have hp' := ExPost.trans g hp
            obtain ⟨G1, g1, hd1, rfl, he1⟩ := hp
            exact hp'
          | panic v =>
            simp only [hx, Option.some.injEq, Prod.mk.injEq] at hl
            obtain ⟨rfl, rfl, rfl⟩ := hl
            have hp' := ExPost.trans g hp
            obtain ⟨G1, g1, hd1, u, rfl, he1⟩ := hp
            exact hp'
    exact key k (.refl h0) he hd hl
  | exit id =>
    intro G st W a env ex env' st' h he hd hl
    simp only [exec, Option.some.injEq, Prod.mk.injEq] at hl
    obtain ⟨rfl, rfl, rfl⟩ := hl
    exact wp_exit ⟨G, .refl h, hd, rfl, he⟩
  | ret =>
    intro G st W a env ex env' st' h he hd hl
    simp only [exec, Option.some.injEq, Prod.mk.injEq] at hl
    obtain ⟨rfl, rfl, rfl⟩ := hl
    exact wp_ret ⟨G, .refl h, hd, rfl, he⟩
  | _ => intro G st W a env ex env' st' h he hd hl; simp [exec] at hl
theorem resL_sound {tmps : Array Value} {env : Env} (h : Sim G st W) (he : Reps G env tmps.toList) :
    ∀ {rs : List ResultVar} {vs : List V}, resL P env st rs = some vs → ∃ us, Reps G vs us ∧ ∀ fr : ResultVar → Sem Value, (∀ t, fr (.tmp t) = pure (tmps.getD t undef)) →
      (∀ a t, fr (.cell a t) = do loadVar t (← asAddr (tmps.getD a undef))) → (rs.mapM fr).run P W = .ok us W
  | [], vs, hl => by simp only [resL, Option.some.injEq] at hl; subst hl; exact ⟨[], rfl, by simp⟩
  | r :: rs, vs, hl => by
    simp only [resL] at hl
    cases hr : resV P env st r with
    | none => simp [hr] at hl
    | some v =>
      cases hq : resL P env st rs with
      | none => simp [hr, hq] at hl
      | some vs' =>
        simp only [hr, hq, Option.some.injEq] at hl
        subst hl
        obtain ⟨us, k2, k1⟩ := resL_sound h he hq
        have hget : ∀ t, Rep G (env.getD t .undef) (tmps.getD t undef) := fun t => by
          have := he.getD t undef
          simpa [Array.getD_eq_getD_getElem?, List.getD_eq_getElem?_getD] using this
        have : ∃ u, Rep G v u ∧ ∀ fr : ResultVar → Sem Value, (∀ t, fr (.tmp t) = pure (tmps.getD t undef)) →
            (∀ a t, fr (.cell a t) = do loadVar t (← asAddr (tmps.getD a undef))) → (fr r).run P W = .ok u W := by
          cases r with
          | tmp t => simp only [resV, Option.some.injEq] at hr; subst hr; exact ⟨_, hget t, fun fr h1 _ => by rw [h1]; rfl⟩
          | cell t ty =>
            simp only [resV] at hr
            have hg := hget t
            obtain ⟨u, q1, q2⟩ := load_sound h hg hr
            refine ⟨u, q2, fun fr _ h2 => ?_⟩
            rw [h2]
            generalize tmps.getD t undef = va at q1
            cases va <;> try (simp [Instr.loadAt, Instr.sureAddr] at q1; done)
            rename_i ad
            cases ad
            · simp [Instr.loadAt, Instr.sureAddr] at q1
            · simpa [Instr.loadAt, Instr.sureAddr, asAddr] using q1
        obtain ⟨u, q2, q1⟩ := this
        exact ⟨u :: us, ⟨u, us, rfl, q2, k2⟩, fun fr h1 h2 => by simp [List.mapM_cons, q1 fr h1 h2, k1 fr h1 h2]⟩
theorem single_rep {vs : List V} {us : List Value} (h : Reps G vs us) : Rep G (single vs) (if h : us.toArray.size = 1 then us.toArray[0] else .tuple us.toArray) := by
  have hl := h.length
  match vs, us, h with
  | [], us, h => simp only [Reps] at h; subst h; exact ⟨#[], rfl, rfl⟩
  | [v], us, h =>
    obtain ⟨u, r, rfl, h1, h2⟩ := h
    simp only [Reps] at h2
    subst h2
    exact h1
  | v :: w :: vs, us, h =>
    have hne : ¬ us.toArray.size = 1 := by simp at hl ⊢; omega
    rw [dif_neg hne]
    exact ⟨us.toArray, rfl, h⟩
theorem normTop_sound (h : Sim G st W) {v : V} {u : Value} (hr : Rep G v u) : ∃ G', Good G W G' (normTop v st).2 W ∧ Rep G' (normTop v st).1 u := by
  cases v <;> try exact ⟨G, .refl h, Rep.frz _ _ hr⟩
  case slice o xs =>
    cases o with
    | froz => exact ⟨G, .refl h, Rep.frz _ _ hr⟩
    | full => exact adopt_full h hr
    | own b =>
      simp only [normTop]
      split
      · exact ⟨G, .refl h, hr⟩
      · exact ⟨G, .refl h, Rep.frz _ _ hr⟩
theorem normL_sound {vs : List V} {us : List Value} {G : Ghost} {st : St} (h : Sim G st W) (hr : Reps G vs us) : ∃ G', Good G W G' (normL vs st).2 W ∧ Reps G' (normL vs st).1 us := by
  match vs, hr with
  | [v], hr =>
    obtain ⟨u, r, rfl, h1, h2⟩ := hr
    obtain ⟨G1, g1, r1⟩ := normTop_sound h h1
    exact ⟨G1, g1, u, r, rfl, r1, h2⟩
  | [], hr => exact ⟨G, .refl h, hr⟩
  | v :: w :: vs, hr => exact ⟨G, .refl h, Reps.frz _ _ hr⟩
theorem tip_frz {st : St} {b n : Nat} (h : st[b]? = some [.tip n]) : (st.map frzL)[b]? = some [.tip n] := by
  rw [List.getElem?_map, h]; rfl
theorem Sim.ice (h : Sim G st W) : Sim G (st.map frzL) W :=
  ⟨⟨h.imm, fun b hb => h.dom b (by simpa using hb), fun b B hb => by
      obtain ⟨⟨cs, c, T, h1, h2, h3⟩, h4⟩ := h.box b B hb
      exact ⟨⟨frzL cs, c, T, by rw [List.getElem?_map, h1]; rfl, h2, Reps.frz _ _ h3⟩, h4⟩, h.inj, fun b d hd => by
      have t := h.tip b d hd
      exact ⟨tip_frz t.st, t.nobox, t.le, t.none, t.pos, t.room⟩, h.tinj, h.base, fun b hb => by simpa using h.res b hb⟩, h.fix⟩
theorem gc_sound {G0 : Ghost} {st0 : St} {W0 : World} (s0 : Sim G0 st0 W0) (g : Good G0 W0 G st W) {vs vs' : List V} {st' : St} {us : List Value} (hr : Reps G vs us) (hl : gc st0.length vs st = some (vs', st')) :
    ∃ G', Good G0 W0 G' st' W ∧ Reps G' vs' us := by
  unfold gc at hl
  simp only at hl
  generalize reach st reachFuel (refsL vs ++ refsL (st.take st0.length).flatten) (List.range st0.length) = seen at hl
  split at hl
  · rename_i hc
    simp only [Bool.and_eq_true, beq_iff_eq] at hc
    obtain ⟨⟨⟨k1, k2⟩, k3⟩, k4⟩ := hc
    have hR := closed_of k1 k2
    have hvs : ∀ b ∈ refsL vs, b ∈ seen := fun b hb => by have := List.all_eq_true.1 k3 b hb; simpa using this
    have hget : ∀ b, b < st0.length → seen[b]? = some b := fun b hb => by
      have : (seen.take st0.length)[b]? = some b := by rw [k4]; simp [hb]
      rwa [List.getElem?_take_of_lt hb] at this
    split at hl
    · rename_i hlen
      cases hl
      have hseen : seen = List.range st0.length := by rw [← k4, ← hlen, List.take_length]
      have hlt : ∀ b ∈ seen, b < st0.length := fun b hb => by rw [hseen] at hb; simpa using hb
      refine ⟨G.cut st0.length, ⟨g.sim.cut fun b hb r hr => hlt r (hR.sub b (by rw [hseen]; simpa using hb) r hr), g.ext.cut _, g.le.cut s0 (Nat.le_refl _), fun b hb => by have := (s0.res b hb).1; simp [Ghost.cut, this, g.res b hb]⟩, hr.cut fun b hb => hlt b (hvs b hb)⟩
    · cases hl
      refine ⟨G.sub seen, ⟨g.sim.sub hR, ⟨g.ext.imm, g.ext.size, g.ext.keep, g.ext.immK, fun B hB t => g.ext.tb B hB (sub_tb t), g.ext.env, g.ext.fix⟩, ⟨g.le.imm, fun b B e => ?_, fun b d e => ?_⟩, fun b hb => ?_⟩, Reps.tr _ _ (Tr.sub hvs) hr⟩
      · have := (s0.lt_box e).1
        simp [Ghost.sub, hget b this, g.le.box b B e]
      · have := s0.lt_hdr e
        obtain ⟨d', e', l⟩ := g.le.hdr b d e
        exact ⟨d', by simp [Ghost.sub, hget b this, e'], l⟩
      · have := (s0.res b hb).1
        simp [Ghost.sub, hget b this, g.res b hb]
  · cases hl
def NoNum (P : Program) : Prop := ∀ (f : FuncId) (fn : Func), P.funcs[f]? = some fn → (fn.name == "runtime.NumGoroutine") = false
theorem callFunc_enter (hN : NoNum P) {f : FuncId} {fn : Func} {c : Code} (hf : P.funcs[f]? = some fn) (hb : fn.body = some c) (vs : Array Value) (W : World) :
    (callFunc f vs).run P W = .ok (.enter f vs) W := by
  have : ¬ fn.name = "runtime.NumGoroutine" := by simpa using hN f fn hf
  simp [callFunc, hf, hb, this]
def PrimSound (P : Program) (f : FuncId) (p : Prim) : Prop :=
  ∀ cl, Sound P cl → ∀ args st out st', primRun cl p args st = some (out, st') → ∀ G W vs, Sim G st W → Reps G args vs.toList → Does P f vs W (Post G W out st')
theorem reps_single {x : V} {xs : List V} {us : List Value} (h : Reps G xs us) (e : xs = [x]) : ∃ u, us = [u] ∧ Rep G x u := by
  subst e
  obtain ⟨u, r, rfl, h1, h2⟩ := h
  simp only [Reps] at h2
  subst h2
  exact ⟨u, rfl, h1⟩
theorem gc_length {n : Nat} {vs vs' : List V} {st st' : St} (h : gc n vs st = some (vs', st')) : vs'.length = vs.length := by
  unfold gc at h
  simp only at h
  split at h
  · split at h
    · cases h; rfl
    · cases h; exact renL_length _ _
  · cases h
theorem ice_sound {f : FuncId} {out out' : Out} {st0 st1 st2 : St} {G : Ghost} {W W' : World} (s0 : Sim G st0 W) (hi : iceO f st0.length (some (out, st1)) = some (out', st2)) {e : Ending} (h : Post G W out st1 e W') : Post G W out' st2 e W' := by
  obtain ⟨G1, u, g, h⟩ := h
  have g1 : Good G W G1 (st1.map frzL) W' := ⟨g.sim.ice, g.ext, g.le, g.res⟩
  cases hf : iceF f with
  | false =>
    cases out <;> simp only [iceO, hf, Bool.false_and, Bool.false_eq_true, if_false, Option.some.injEq, Prod.mk.injEq] at hi <;> obtain ⟨rfl, rfl⟩ := hi <;> exact ⟨G1, u, g, h⟩
  | true =>
    cases out with
    | ret v =>
      cases hk : keepI v with
      | true =>
        simp only [iceO, hf, hk, Bool.not_true, Bool.and_false, Bool.false_eq_true, if_false, Option.some.injEq, Prod.mk.injEq] at hi
        obtain ⟨rfl, rfl⟩ := hi
        exact ⟨G1, u, g, h⟩
      | false =>
      simp only [iceO, hf, hk, Bool.not_false, Bool.and_true, if_true] at hi
      simp only at h
      cases hg : gc st0.length [frz v] (st1.map frzL) with
      | none => simp [hg] at hi
      | some p =>
        obtain ⟨vs', st3⟩ := p
        have hvl := gc_length hg
        match vs', hvl with
        | [v'], _ =>
          simp only [hg, Option.some.injEq, Prod.mk.injEq] at hi
          obtain ⟨rfl, rfl⟩ := hi
          obtain ⟨G3, g3, r3⟩ := gc_sound s0 g1 (vs := [frz v]) (us := [u]) ⟨u, [], rfl, Rep.frz _ _ h.2, rfl⟩ hg
          obtain ⟨u', e', r4⟩ := reps_single r3 rfl
          cases e'
          exact ⟨G3, u, g3, h.1, r4⟩
    | panic v =>
      simp only [iceO, hf, if_true] at hi
      simp only at h
      cases hg : gc st0.length [frz v] (st1.map frzL) with
      | none => simp [hg] at hi
      | some p =>
        obtain ⟨vs', st3⟩ := p
        have hvl := gc_length hg
        match vs', hvl with
        | [v'], _ =>
          simp only [hg, Option.some.injEq, Prod.mk.injEq] at hi
          obtain ⟨rfl, rfl⟩ := hi
          obtain ⟨G3, g3, r3⟩ := gc_sound s0 g1 (vs := [frz v]) (us := [u]) ⟨u, [], rfl, Rep.frz _ _ h.2, rfl⟩ hg
          obtain ⟨u', e', r4⟩ := reps_single r3 rfl
          cases e'
          exact ⟨G3, u, g3, h.1, r4⟩
theorem run_sound (hm : P.follows .mixedOrders = true) (hN : NoNum P) {pr : Prims} (hp : ∀ f p, pr f = some p → PrimSound P f p) : ∀ k, Sound P (run P pr k) := by
  intro k
  induction k with
  | zero => intro f args st out st' h; simp [run] at h
  | succ k ih =>
    intro f args st out st' hl G W vs h ha
    simp only [run] at hl
    cases hpr : pr f with
    | some p =>
      rw [hpr] at hl
      exact hp f p hpr _ ih args st out st' hl G W vs h ha
    | none =>
      rw [hpr] at hl
      simp only at hl
      cases hf : P.funcs[f]? with
      | none => simp [hf] at hl
      | some fn =>
        simp only [hf] at hl
        cases hb : fn.body with
        | none => simp [hb] at hl
        | some c =>
          simp only [hb] at hl
          cases hx : exec P (run P pr k) k c (args ++ List.replicate (fn.ntmps - args.length) .undef) st with
          | none => simp [hx] at hl
          | some r =>
            obtain ⟨ex, env1, st1⟩ := r
            simp only [hx] at hl
            obtain ⟨out0, st0, hl0⟩ : ∃ out0 st0, finish P st.length fn.results.toList (ex, env1, st1) = some (out0, st0) := by
              cases hfin : finish P st.length fn.results.toList (ex, env1, st1) with
              | none => rw [hfin] at hl; cases hl
              | some q => exact ⟨q.1, q.2, rfl⟩
            rw [hl0] at hl
            refine Does.mono ?_ fun e W' hp => ice_sound h hl hp
            clear hl
            have hl := hl0
            clear hl0
            unfold Does
            rw [callFunc_enter hN hf hb]
            simp only
            refine calls_of_wp hf hb ?_
            have hlen : args.length = vs.size := by have := ha.length; simpa using this
            have henv : Reps G (args ++ List.replicate (fn.ntmps - args.length) .undef) (vs ++ Array.replicate (fn.ntmps - vs.size) undef).toList := by
              rw [Array.toList_append, Array.toList_replicate, ← hlen]
              exact ha.append (reps_undef _ _ (by simp))
            refine wp_mono (exec_sound hm ih c (a := { tmps := vs ++ Array.replicate (fn.ntmps - vs.size) undef, defers := [] }) h henv rfl hx) fun e a' W' hpost => ?_
            obtain ⟨G1, g1, hd1, hm⟩ := hpost
            have done : ∀ {out : Out} {st' : St}, Reps G1 env1 a'.tmps.toList → (match resL P env1 st1 fn.results.toList with
                | some vs => let r := normL vs st1
                  match gc st.length r.1 r.2 with
                  | some (vs', st') => some (Out.ret (single vs'), st')
                  | none => none
                | none => none) = some (out, st') → a'.defers = [] ∧ ∃ v, (results fn a'.tmps).run P W' = .ok v W' ∧ Post G W out st' (.returned v) W' := by
              intro out st' he1 hl
              cases hr : resL P env1 st1 fn.results.toList with
              | none => simp [hr] at hl
              | some ws =>
                simp only [hr] at hl
                obtain ⟨us, q2, q1⟩ := resL_sound g1.sim he1 hr
                obtain ⟨G2, g2, r2⟩ := normL_sound g1.sim q2
                cases hg : gc st.length (normL ws st1).1 (normL ws st1).2 with
                | none => simp [hg] at hl
                | some p =>
                  obtain ⟨vs', st2⟩ := p
                  simp only [hg, Option.some.injEq, Prod.mk.injEq] at hl
                  obtain ⟨rfl, rfl⟩ := hl
                  obtain ⟨G3, g3, r3⟩ := gc_sound h (g1.trans g2) r2 hg
                  refine ⟨hd1, _, ?_, G3, _, g3, rfl, single_rep r3⟩
                  unfold results
                  rw [Sem.run_bind, Array.mapM_eq_mapM_toList, Sem.run_map, q1]
                  · rfl
                  · exact fun _ => rfl
                  · exact fun _ _ => rfl
            cases ex with
            | normal => obtain ⟨rfl, he1⟩ := hm; exact done he1 hl
            | ret => obtain ⟨rfl, he1⟩ := hm; exact done he1 hl
            | exit i => simp [finish] at hl
            | panic v =>
              obtain ⟨u, rfl, hr⟩ := hm
              simp only [finish] at hl
              cases hg : gc st.length [frz v] st1 with
              | none => simp [hg] at hl
              | some p =>
                obtain ⟨vs', st2⟩ := p
                have hvl := gc_length hg
                match vs', hvl with
                | [v'], _ =>
                  simp only [hg, Option.some.injEq, Prod.mk.injEq] at hl
                  obtain ⟨rfl, rfl⟩ := hl
                  obtain ⟨G3, g3, r3⟩ := gc_sound h g1 (vs := [frz v]) (us := [u]) ⟨u, [], rfl, Rep.frz _ _ hr, rfl⟩ hg
                  obtain ⟨u', e, r4⟩ := reps_single r3 rfl
                  cases e
                  exact ⟨hd1, G3, u, g3, rfl, r4⟩
end Go.Abs
