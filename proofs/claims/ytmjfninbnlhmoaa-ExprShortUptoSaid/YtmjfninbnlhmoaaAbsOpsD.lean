/- Operators, conversions, slices, literals, append: each does what the abstract one says. -/
import Derived.Test.YtmjfninbnlhmoaaAbsOpsC
import Derived.Laws.BytesString
namespace Go.Abs
open Go

variable {P : Program} {G : Ghost} {st : St} {W : World}

theorem eqRes_sound {op : BinOp} {t : TypeId} {x y : Operand} {a b r : V} {u v : Value} (ha : Rep G a u) (hb : Rep G b v) (h : eqRes op (veq P eqDepth t a b) = some r)
    (hop : binOp .eql t u v = (do pure (.bool (← Op.equal t u v))) ∧ binOp .neq t u v = (do pure (.bool (!(← Op.equal t u v))))) :
    ∃ w, (do eqGuard op t x y u v; binOp op t u v).run P W = .ok w W ∧ Rep G r w := by
  cases hq : veq P eqDepth t a b with
  | none => simp [hq, eqRes] at h
  | some q =>
    have hg := eqGuard_ok (op := op) (x := x) (y := y) (W := W) ha hb hq
    have he : (Op.equal t u v).run P W = .ok q W := (veq_both (P := P) (G := G) eqDepth).1 t a b u v q hq ha hb 10000 (by decide) W
    rw [hq] at h
    cases op <;> simp only [eqRes, Option.some.injEq, reduceCtorEq] at h
    · subst h; exact ⟨.bool q, by simp [hg, hop.1, he], rfl⟩
    · subst h; exact ⟨.bool (!q), by simp [hg, hop.2, he], rfl⟩

theorem binOp_sound {op : BinOp} {t : TypeId} {x y : Operand} {a b r : V} {u v : Value} (ha : Rep G a u) (hb : Rep G b v) (h : binOpV P op t a b = some r) :
    ∃ w, (do eqGuard op t x y u v; binOp op t u v).run P W = .ok w W ∧ Rep G r w := by
  cases a <;> cases b <;> simp only [binOpV, reduceCtorEq] at h
  case int.int k m k' n =>
    simp only [Rep] at ha hb
    subst ha; subst hb
    have hg : ∀ op : BinOp, (eqGuard op t x y (.int k m) (.int k' n)).run P W = .ok () W := fun op => by cases op <;> simp [eqGuard]
    cases op
    case shl =>
      simp only at h
      split at h
      · cases h
      · rename_i hn; cases h; exact ⟨_, by simp [hg, binOp, Op.shift, hn], rfl⟩
    case shr =>
      simp only at h
      split at h
      · cases h
      · rename_i hn; cases h; exact ⟨_, by simp [hg, binOp, Op.shift, hn], rfl⟩
    all_goals
      simp only at h
      split at h
      · rename_i hk
        subst hk
        obtain ⟨w, h1, h2⟩ := intBin_sound (P := P) (G := G) (W := W) (t := t) h
        exact ⟨w, by rw [Sem.run_bind, hg]; exact h1, h2⟩
      · cases h
  case str.str m n =>
    obtain ⟨za, rfl, rfl⟩ := ha
    obtain ⟨zb, rfl, rfl⟩ := hb
    obtain ⟨w, h1, h2⟩ := strBin_sound (P := P) (G := G) (W := W) (t := t) h
    refine ⟨w, ?_, h2⟩
    rw [Sem.run_bind]
    have hg : (eqGuard op t x y (.string za) (.string zb)).run P W = .ok () W := by cases op <;> simp [eqGuard]
    rw [hg]; exact h1
  all_goals
    refine eqRes_sound ha hb h ?_
    simp only [Rep] at ha hb
    first
      | (subst ha; subst hb; exact ⟨rfl, rfl⟩)
      | (subst ha; obtain ⟨_, _, rfl⟩ := hb; exact ⟨rfl, rfl⟩)
      | (subst ha; obtain ⟨_, _, _, rfl, _⟩ := hb; exact ⟨rfl, rfl⟩)
      | (subst ha; obtain ⟨_, _, rfl, _⟩ := hb; exact ⟨rfl, rfl⟩)
      | (subst hb; obtain ⟨_, _, rfl⟩ := ha; exact ⟨rfl, rfl⟩)
      | (subst hb; obtain ⟨_, _, _, rfl, _⟩ := ha; exact ⟨rfl, rfl⟩)
      | (subst hb; obtain ⟨_, _, rfl, _⟩ := ha; exact ⟨rfl, rfl⟩)
      | (obtain ⟨_, rfl, _⟩ := ha; obtain ⟨_, rfl, _⟩ := hb; exact ⟨rfl, rfl⟩)

theorem unOp_sound {op : UnOp} {a r : V} {u : Value} (ha : Rep G a u) (h : unOpV op a = some r) : ∃ w, (Op.unary op u).run P W = .ok w W ∧ Rep G r w := by
  cases op <;> cases a <;> simp only [unOpV, reduceCtorEq, Option.some.injEq] at h
  · simp only [Rep] at ha; subst ha; subst h; exact ⟨_, rfl, rfl⟩
  · simp only [Rep] at ha; subst ha; subst h; exact ⟨_, rfl, rfl⟩

theorem bytes_sound : ∀ {xs : List V} {vs : List Value} {bs : List UInt8}, bytesOf xs = some bs → Reps G xs vs → ∃ ns : List Int, vs = ns.map (.int .u8) ∧ bs = ns.map fun n => UInt8.ofNat n.toNat
  | [], vs, bs, h, hr => by simp only [bytesOf, Option.some.injEq] at h; simp only [Reps] at hr; subst h; subst hr; exact ⟨[], rfl, rfl⟩
  | x :: xs, vs, bs, h, hr => by
    obtain ⟨v, r, rfl, h1, h2⟩ := hr
    cases x <;> try (simp [bytesOf] at h; done)
    case int k n =>
      cases k <;> try (simp [bytesOf] at h; done)
      simp only [bytesOf, Option.map_eq_some_iff] at h
      obtain ⟨bs', h3, rfl⟩ := h
      obtain ⟨ns, h4, h5⟩ := bytes_sound h3 h2
      simp only [Rep] at h1
      subst h1
      exact ⟨n :: ns, by simp [h4], by simp [h5]⟩

theorem bytesOf_len : ∀ {xs : List V} {bs : List UInt8}, bytesOf xs = some bs → xs.flatMap vcells = xs
  | [], _, _ => rfl
  | x :: xs, bs, h => by
    cases x <;> try (simp [bytesOf] at h; done)
    case int k n =>
      cases k <;> try (simp [bytesOf] at h; done)
      simp only [bytesOf, Option.map_eq_some_iff] at h
      obtain ⟨bs', h3, rfl⟩ := h
      simp [vcells, bytesOf_len h3]

theorem foldl_push : ∀ (ns : List Int) (s : ByteArray), (ns.foldl (fun s n => s.push (UInt8.ofNat n.toNat)) s).data.toList = s.data.toList ++ ns.map fun n => UInt8.ofNat n.toNat
  | [], s => by simp
  | n :: ns, s => by simp only [List.foldl_cons, foldl_push ns, List.map_cons]; simp [ByteArray.push]

theorem convert_sound {src dst : TypeId} {a r : V} {u : Value} (h : Sim G st W) (ha : Rep G a u) (hl : convertV P src dst a = some r) :
    ∃ w W', (convert src dst u).run P W = .ok w W' ∧ Good G W G st W' ∧ Rep G r w := by
  unfold convertV at hl
  cases hS : ti P src with
  | none => simp [hS] at hl
  | some S =>
    cases hT : ti P dst with
    | none => simp [hS, hT] at hl
    | some T =>
      obtain ⟨i, d, z, h1, h2, -, -, h3, h4, -⟩ := ti_spec hS
      obtain ⟨i', d', z', h1', h2', -, -, h3', h4', -⟩ := ti_spec hT
      obtain ⟨D, sz, by_, ze, eq⟩ := S
      obtain ⟨D', sz', by_', ze', eq'⟩ := T
      simp only at h3 h3'
      rw [hS, hT] at hl
      cases a <;> try (cases D <;> cases D' <;> simp at hl; done)
      case int k n =>
        cases D' <;> try (cases D <;> simp at hl; done)
        case int k' =>
          have := dOf_int h3'; subst this
          simp only [Option.some.injEq] at hl
          subst hl
          simp only [Rep] at ha; subst ha
          exact ⟨.int k' (k'.wrap n), W, by simp [convert, run_underlying h2, run_underlying h2', Conv.intToInt], .refl h, rfl⟩
      case str s =>
        obtain ⟨zs, rfl, rfl⟩ := ha
        cases D <;> try (cases D' <;> simp at hl; done)
        cases D' <;> try (simp at hl; done)
        case string.string =>
          have := dOf_string h3; subst this
          have := dOf_string h3'; subst this
          simp only [Option.some.injEq] at hl
          subst hl
          exact ⟨.string zs, W, by simp [convert, run_underlying h2, run_underlying h2'], .refl h, zs, rfl, rfl⟩
      case slice o xs =>
        cases D <;> try (cases D' <;> simp at hl; done)
        cases D' <;> try (simp at hl; done)
        case slice.string e =>
          have := dOf_slice h3; subst this
          have := dOf_string h3'; subst this
          simp only at hl
          cases hE : ti P e with
          | none => simp [hE] at hl
          | some E =>
            obtain ⟨D'', sz'', by_'', ze'', eq''⟩ := E
            obtain ⟨i'', d'', z'', h1'', h2'', -, -, h3'', h4'', -⟩ := ti_spec hE
            rw [hE] at hl
            cases D'' <;> try (simp at hl; done)
            case int kk =>
              cases kk <;> try (simp at hl; done)
              have := dOf_int h3''; subst this
              simp only [Option.map_eq_some_iff] at hl
              obtain ⟨bs, hbs, rfl⟩ := hl
              obtain ⟨a, cap, rfl, _, _, hn, _, hcase⟩ := ha
              rcases hcase with rfl | ⟨B, off, rfl, hr⟩
              · simp only [bytesOf, Option.some.injEq] at hbs
                subst hbs
                refine ⟨.string .empty, W, ?_, .refl h, _, rfl, rfl⟩
                rw [run_convert_bytes_string W src dst e _ _ _ h2 h2'' h2']
                cases a with
                | none => simp [Conv.bytesToString]
                | some ad => exact run_bytesToString W ad 0 cap [] (run_loadCells_list (P := P) W ad [] (fun j v e => by simp at e))
              · rw [readsE_flat, bytesOf_len hbs] at hr
                obtain ⟨vs, k1, _, k3⟩ := hr.exists
                obtain ⟨ns, rfl, rfl⟩ := bytes_sound hbs k1
                have hlc := run_loadCells_list (P := P) W (adr B off) (ns.map (Value.int .u8)) (fun j v e => by rw [adr_add]; exact h.cell (k3 j v e))
                have hlen : xs.length = ns.length := by simpa using k1.length
                rw [List.length_map] at hlc
                refine ⟨_, W, ?_, .refl h, _, rfl, foldl_push ns .empty⟩
                rw [run_convert_bytes_string W src dst e _ _ _ h2 h2'' h2', hlen]
                exact run_bytesToString W (adr B off) ns.length cap ns hlc

theorem natOf_sound {v : V} {n : Nat} {u : Value} (h : natOf v = some n) (hr : Rep G v u) : ∃ k, u = .int k (n : Int) := by
  cases v <;> simp only [natOf, reduceCtorEq] at h
  case int k m =>
    split at h
    · rename_i hm
      cases h
      simp only [Rep] at hr
      exact ⟨k, by rw [hr]; congr 1; omega⟩
    · cases h

theorem run_bound {k : IntKind} {n y : Nat} {c : BoundsCode} (h : n ≤ y) : (Instr.sliceBound (.int k (n : Int)) y c).run P W = .ok n W := by
  have h' : (n : Int) ≤ (y : Int) := by omega
  simp [Instr.sliceBound, asIntOf, h']

end Go.Abs
