/- What stands for functions without a body does what they do. -/
import Derived.Test.YtpmeklllgnnffaaGreatDoorR11
import Derived.Test.YtpmeklllgnnffaaGreatDoorR9
import Derived.Test.YtpmeklllgnnffaaGreatDoorR12
import Derived.Lib.AppendIntMem
import Derived.Laws.Externs
import Derived.Eval
import Derived.Test.YtpmeklllgnnffaaGreatDoorChecked
set_option linter.unusedSimpArgs false
set_option linter.unusedVariables false

namespace Go.Abs
set_option linter.unusedSimpArgs false
set_option linter.unusedVariables false
open Go Go.Proofs
set_option maxRecDepth 100000 in
theorem repl_sound : PrimSound Tryz.prog 137 (.pure replP) := by
  intro cl hcl args st out st' h G W vs hS ha
  simp only [primRun] at h
  cases hc : replP args with
  | none => rw [hc] at h; cases h
  | some v =>
    rw [hc] at h
    simp only [Option.some.injEq, Prod.mk.injEq] at h
    obtain ⟨rfl, rfl⟩ := h
    unfold replP at hc
    split at hc
    · rename_i a b c
      split at hc
      · rename_i hcond
        simp only [Option.some.injEq] at hc
        obtain ⟨u1, r1, e1, h1, h2⟩ := ha
        obtain ⟨u2, r2, rfl, h3, h4⟩ := h2
        obtain ⟨u3, r3, rfl, h5, h6⟩ := h4
        simp only [Reps] at h6
        subst h6
        obtain ⟨s1, rfl, rfl⟩ := h1
        obtain ⟨s2, rfl, rfl⟩ := h3
        obtain ⟨s3, rfl, rfl⟩ := h5
        obtain rfl : vs = #[.string s1, .string s2, .string s3] := Array.ext' (by simpa using e1)
        obtain ⟨m, hm⟩ := hS.base.1
        have hent : (callFunc 137 #[.string s1, .string s2, .string s3]).run Tryz.prog W = .ok (.enter 137 #[.string s1, .string s2, .string s3]) W := by
          simp [callFunc, Tryz.func137, Tryz.f137]
        unfold Does
        rw [hent]
        simp only
        have l : ∀ s : ByteArray, s.data.toList.length = s.size := fun s => by simp
        rw [l, l, l] at hcond
        refine (Tryz.strings_ReplaceAll s1 s2 s3 m W hcond.1 (hS.cell hm) hcond.2.1 hcond.2.2).mono fun e W' ⟨he, hg⟩ => ?_
        subst he
        refine ⟨G, _, good_below hS hg, rfl, ?_⟩
        rw [← hc]
        exact ⟨_, rfl, by simp⟩
      · cases hc
    · cases hc
theorem strs_cells {G : Ghost} {W : World} {st : St} (hS : Sim G st W) : ∀ (xs : List V) (ss : List (List UInt8)) (B off : Nat), strsOf xs = some ss → ReadsE G xs B off →
    ∃ bs : List ByteArray, bs.map (·.data.toList) = ss ∧ xs.length = bs.length ∧ ∀ (j : Nat) x, bs[j]? = some x → W.cell? ⟨B, off + j, none⟩ = some (.string x)
  | [], ss, B, off, h, _ => by
    simp only [strsOf, Option.some.injEq] at h
    subst h
    exact ⟨[], rfl, rfl, fun j x e => by simp at e⟩
  | x :: xs, ss, B, off, h, hr => by
    cases x <;> try (simp [strsOf] at h; done)
    case str s =>
      simp only [strsOf, Option.map_eq_some_iff] at h
      obtain ⟨r, h1, rfl⟩ := h
      rw [readsE_cons] at hr
      simp only [vcells, Reads, and_true, List.length_singleton] at hr
      obtain ⟨⟨v, e1, _, e2⟩, hr2⟩ := hr
      obtain ⟨z, rfl, rfl⟩ := e2
      obtain ⟨bs, k1, k2, k3⟩ := strs_cells hS xs r B (off + 1) h1 hr2
      refine ⟨z :: bs, by simp [k1], by simp [k2], fun j y e => ?_⟩
      cases j with
      | zero => simp at e; subst e; exact hS.cell e1
      | succ j =>
        have := k3 j y (by simpa using e)
        rwa [show off + (j + 1) = off + 1 + j by omega]
set_option maxRecDepth 100000 in
theorem join_sound : PrimSound Tryz.prog 87 (.pure joinP) := by
  intro cl hcl args st out st' h G W vs hS ha
  simp only [primRun] at h
  cases hc : joinP args with
  | none => rw [hc] at h; cases h
  | some v =>
    rw [hc] at h
    simp only [Option.some.injEq, Prod.mk.injEq] at h
    obtain ⟨rfl, rfl⟩ := h
    unfold joinP at hc
    split at hc
    · rename_i o xs sep
      cases hss : strsOf xs with
      | none => rw [hss] at hc; cases hc
      | some ss =>
        rw [hss] at hc
        simp only at hc
        split at hc
        · rename_i hcond
          simp only [Option.some.injEq] at hc
          obtain ⟨u1, r1, e1, h1, h2⟩ := ha
          obtain ⟨u2, r2, rfl, h3, h4⟩ := h2
          simp only [Reps] at h4
          subst h4
          obtain ⟨zs, rfl, rfl⟩ := h3
          obtain ⟨a, cap, rfl, hcap, _, _, _, hcase⟩ := h1
          obtain rfl : vs = #[.slice a xs.length cap, .string zs] := Array.ext' (by simpa using e1)
          have hent : (callFunc 87 #[.slice a xs.length cap, .string zs]).run Tryz.prog W = .ok (.enter 87 #[.slice a xs.length cap, .string zs]) W := by
            simp [callFunc, Tryz.func87, Tryz.f87]
          unfold Does
          rw [hent]
          simp only
          rcases hcase with rfl | ⟨B, off, rfl, hr⟩
          · simp only [strsOf, Option.some.injEq] at hss
            subst hss
            refine (Tryz.strings_Join_none a cap zs W).mono fun e W' ⟨he, hw⟩ => ?_
            subst he; subst hw
            refine ⟨G, _, .refl hS, rfl, ?_⟩
            rw [← hc, Lib.join_nil]
            exact ⟨_, rfl, rfl⟩
          · obtain ⟨bs, k1, k2, k3⟩ := strs_cells hS xs ss B off hss hr
            have hxs : xs ≠ [] ∨ xs = [] := by by_cases h0 : xs = [] <;> simp [h0]
            rcases hxs with hne | rfl
            · have hB : B < W.heap.size := by
                cases hb : bs with
                | nil => rw [hb] at k2; exact absurd (List.eq_nil_of_length_eq_zero k2) hne
                | cons b0 bs0 =>
                  have := k3 0 b0 (by rw [hb]; rfl)
                  unfold World.cell? at this
                  cases hh : W.heap[B]? with
                  | none => simp [hh] at this
                  | some x => exact (Array.getElem?_eq_some_iff.1 hh).1
              have hlen : bs.length = ss.length := by rw [← k1]; simp
              rw [k2] at hcap ⊢
              refine (Tryz.strings_Join B off cap bs zs W k3 hB (by omega) hcap (by rw [k1]; exact hcond.2)).mono fun e W' ⟨he, hg⟩ => ?_
              subst he
              refine ⟨G, _, good_below hS hg, rfl, ?_⟩
              rw [← hc, k1]
              exact ⟨_, rfl, by simp⟩
            · simp only [strsOf, Option.some.injEq] at hss
              subst hss
              refine (Tryz.strings_Join_none _ cap zs W).mono fun e W' ⟨he, hw⟩ => ?_
              subst he; subst hw
              refine ⟨G, _, .refl hS, rfl, ?_⟩
              rw [← hc, Lib.join_nil]
              exact ⟨_, rfl, rfl⟩
        · cases hc
    · cases hc
set_option maxRecDepth 100000 in
theorem parse_sound : PrimSound Tryz.prog 159 (.pure parseP) := by
  intro cl hcl args st out st' h G W vs hS ha
  simp only [primRun] at h
  cases hc : parseP args with
  | none => rw [hc] at h; cases h
  | some v =>
    rw [hc] at h
    simp only [Option.some.injEq, Prod.mk.injEq] at h
    obtain ⟨rfl, rfl⟩ := h
    unfold parseP at hc
    split at hc
    · rename_i s a b
      split at hc
      · rename_i hcond
        obtain ⟨rfl, rfl, hlen⟩ := hcond
        obtain ⟨u1, r1, e1, h1, h2⟩ := ha
        obtain ⟨u2, r2, rfl, h3, h4⟩ := h2
        obtain ⟨u3, r3, rfl, h5, h6⟩ := h4
        simp only [Reps] at h6
        subst h6
        obtain ⟨s1, rfl, rfl⟩ := h1
        simp only [Rep] at h3 h5
        subst h3
        subst h5
        obtain rfl : vs = #[.string s1, .int .i64 10, .int .i64 64] := Array.ext' (by simpa using e1)
        obtain ⟨ev, hev, hcase⟩ := hS.base.2.1
        have hent : (callFunc 159 #[.string s1, .int .i64 10, .int .i64 64]).run Tryz.prog W = .ok (.enter 159 #[.string s1, .int .i64 10, .int .i64 64]) W := by
          simp [callFunc, Tryz.func159, Tryz.f159]
        unfold Does
        rw [hent]
        simp only
        have l : s1.data.toList.length = s1.size := by simp
        rw [l] at hlen
        split at hc
        · rename_i v hp
          simp only [Option.some.injEq] at hc
          refine (Tryz.strconv_ParseInt_10_at64_ok s1 (by omega) v hp W).mono fun e W' ⟨he, hg⟩ => ?_
          subst he
          have hb : RowKit.Below W.heap.size W W' := by
            rcases hg with rfl | ⟨t, rfl⟩
            · exact .refl _ _
            · exact Lib.bytesWorld_below _ _ _
          refine ⟨G, _, good_below hS hb, rfl, ?_⟩
          rw [← hc]
          exact ⟨_, rfl, _, _, rfl, rfl, _, _, rfl, rfl, rfl⟩
        · rename_i hp
          simp only [Option.some.injEq] at hc
          refine (Tryz.strconv_ParseInt_10_at64_range s1 hlen hp ev W (hS.cell hev) hcase).mono fun e W' ⟨N, he, _, _, hb⟩ => ?_
          subst he
          refine ⟨G, _, good_below hS hb, rfl, ?_⟩
          rw [← hc]
          exact ⟨_, rfl, _, _, rfl, rfl, _, _, rfl, ⟨_, rfl, trivial⟩, rfl⟩
        · cases hc
      · cases hc
    · cases hc
set_option maxRecDepth 100000 in
theorem itoa_sound : PrimSound Tryz.prog 89 (.pure itoaP) := by
  intro cl hcl args st out st' h G W vs hS ha
  simp only [primRun] at h
  cases hc : itoaP args with
  | none => rw [hc] at h; cases h
  | some v =>
    rw [hc] at h
    simp only [Option.some.injEq, Prod.mk.injEq] at h
    obtain ⟨rfl, rfl⟩ := h
    unfold itoaP at hc
    split at hc
    · rename_i n
      split at hc
      · rename_i hcond
        simp only [Option.some.injEq] at hc
        obtain ⟨u1, r1, e1, h1, h2⟩ := ha
        simp only [Reps] at h2
        subst h2
        simp only [Rep] at h1
        subst h1
        obtain rfl : vs = #[.int .i64 n] := Array.ext' (by simpa using e1)
        obtain ⟨g, T, f, hg, htf⟩ := hS.base.2.2
        have htab : Lib.TabIs Tryz.prog W "internal/strconv.uint64pow10" .u64 Lib.pow10Tab := by
          unfold Lib.TabIs World.var?
          rw [show Tryz.prog.globalNamed "internal/strconv.uint64pow10" = some 2 by kernel_rfl, Option.bind_some]
          subst hg
          rw [(hS.fix _ _ htf).1]
        have hent : (callFunc 89 #[.int .i64 n]).run Tryz.prog W = .ok (.enter 89 #[.int .i64 n]) W := by
          simp [callFunc, Tryz.func89, Tryz.f89]
        unfold Does
        rw [hent]
        simp only
        refine (Tryz.strconv_Itoa n hcond.1 hcond.2 W htab).mono fun e W' ⟨he, k, os, hw⟩ => ?_
        subst he
        subst hw
        refine ⟨G, _, good_below hS (Lib.below_grow _ _ (Nat.le_refl _) k os), rfl, ?_⟩
        rw [← hc]
        exact ⟨_, rfl, by simp⟩
      · cases hc
    · cases hc
set_option maxRecDepth 100000 in
theorem upper_sound : PrimSound Tryz.prog 93 (.pure upperP) := by
  intro cl hcl args st out st' h G W vs hS ha
  simp only [primRun] at h
  cases hc : upperP args with
  | none => rw [hc] at h; cases h
  | some v =>
    rw [hc] at h
    simp only [Option.some.injEq, Prod.mk.injEq] at h
    obtain ⟨rfl, rfl⟩ := h
    unfold upperP at hc
    split at hc
    · rename_i s
      split at hc
      · rename_i hcond
        simp only [Option.some.injEq] at hc
        obtain ⟨u1, r1, e1, h1, h2⟩ := ha
        simp only [Reps] at h2
        subst h2
        obtain ⟨s1, rfl, rfl⟩ := h1
        obtain rfl : vs = #[.string s1] := Array.ext' (by simpa using e1)
        have hent : (callFunc 93 #[.string s1]).run Tryz.prog W = .ok (.enter 93 #[.string s1]) W := by
          simp [callFunc, Tryz.func93, Tryz.f93]
        unfold Does
        rw [hent]
        simp only
        refine (Tryz.strings_ToUpper_ascii s1 W (by simpa using hcond.1) (fun j b e => by
          have := List.all_eq_true.1 hcond.2 b (List.mem_of_getElem? e)
          simpa using this)).mono fun e W' ⟨he, hg⟩ => ?_
        subst he
        refine ⟨G, _, good_below hS hg, rfl, ?_⟩
        rw [← hc]
        exact ⟨_, rfl, by simp⟩
      · cases hc
    · cases hc
set_option maxRecDepth 100000 in
theorem prims_sound : ∀ f p, pr0 f = some p → PrimSound Tryz.prog f p := by
  intro f p h
  unfold pr0 at h
  split at h
  · rename_i hf; subst hf; cases h; exact repl_sound
  · split at h
    · rename_i hf; subst hf; cases h; exact join_sound
    · split at h
      · rename_i hf; subst hf; cases h; exact catch_sound
      · split at h
        · rename_i hf; subst hf; cases h; exact parse_sound
        · split at h
          · rename_i hf; subst hf; cases h; exact itoa_sound
          · split at h
            · rename_i hf; subst hf; cases h; exact upper_sound
            · cases h
set_option maxRecDepth 100000 in
theorem noNum : NoNum Tryz.prog := by
  have h : (Tryz.prog.funcs.toList.all fun fn => !(fn.name == "runtime.NumGoroutine")) = true := by kernel_rfl
  intro f fn hf
  have := List.all_eq_true.1 h fn (List.mem_of_getElem? (by simpa using hf))
  simpa using this
theorem mixed : Tryz.prog.follows .mixedOrders = true := Checked.mixed Tryz.checked
end Go.Abs
