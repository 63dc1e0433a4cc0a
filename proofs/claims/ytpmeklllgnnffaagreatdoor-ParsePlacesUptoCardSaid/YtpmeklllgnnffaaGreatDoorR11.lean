/- What catches a fault: the machine does what the abstract interpreter says of it. -/
import Derived.Test.YtpmeklllgnnffaaGreatDoorR9
import Derived.Test.YtpmeklllgnnffaaGreatDoorProg
import Derived.WalkKit
import Derived.Defers
import Derived.Recover
import Derived.Laws.Pointers
import Derived.Test.YtpmeklllgnnffaaGreatDoorR10
import Derived.Lib.Replace
import Derived.Lib.Join
import Derived.Lib.ParseIntB
import Derived.Lib.Case
import Derived.Lib.ItoaLen
set_option linter.unusedSimpArgs false
set_option linter.unusedVariables false

namespace Go.Abs
open Go Go.Proofs
theorem catch_idle (p : Addr) (w : World) :
    CallsD Tryz.prog 120 #[.pointer (some p)] .returning w fun e u' w' => e = .returned (.tuple #[]) ∧ u' = .returning ∧ w' = w := by
  refine callsD_of_wpS Tryz.func120 rfl fun c₀ cs hu => ?_
  apply wpS_seq
  apply wpS_region
  simp [wpOpsS, go_sem, recoverD, hu, Tryz.ntmps120, Exit.thenS]
  apply wpS_seq
  apply wpS_region
  simp [wpOpsS, go_sem, Exit.thenS]
  refine wpS_cond (t := false) (by simp [Act.eval, Array.replicate]) ?_
  simp only [Bool.false_eq_true, if_false]
  refine wpS_of_wp (wp_skip ?_)
  cases c₀
  simp_all [bodyPostS, results, Tryz.results120]
theorem catch_panicking (B : Nat) (a b : Int) (older : List PanicEntry) (w : World) {x0 x1 : Value} {t : TypeId} (hB : w.heap[B]? = some (.cells #[x0, x1] t (0, 0))) :
    CallsD Tryz.prog 120 #[.pointer (some ⟨B, 0, none⟩)] (.panicking ({ v := .iface 58 (.agg #[.int .i64 a, .int .i64 b]), recovered := false } :: older)) w fun e u' w' =>
      e = .returned (.tuple #[]) ∧ u' = .panicking ({ v := .iface 58 (.agg #[.int .i64 a, .int .i64 b]), recovered := true } :: older) ∧ Turned B #[.int .i64 a, .int .i64 b] t w w' := by
  have hta : ∀ (v : Value) (w : World), (Instr.typeAssert (.iface 58 v) 20 58 true).run Tryz.prog w = .ok (.tuple #[v, .bool true]) w := fun v w => by simp [Instr.typeAssert, run_underlying Tryz.underlying58]
  have al : Turned B #[x0, x1] t w (w.alloc (Obj.cells #[Value.int IntKind.i64 a, Value.int IntKind.i64 b] 58)) := turned_alloc hB _
  have fin := al.trans (turned_set (a := .int .i64 a) (b := .int .i64 b) al.at_)
  have c0 : (w.alloc (Obj.cells #[Value.int IntKind.i64 a, Value.int IntKind.i64 b] 58)).cell? ⟨B, 0, none⟩ = some x0 := by simp [World.cell?, al.at_]
  have z0 : (w.alloc (Obj.cells #[Value.int IntKind.i64 a, Value.int IntKind.i64 b] 58)).frozen? ⟨B, 0, none⟩ = false := by simp [World.frozen?, al.at_]
  have c1 : ((w.alloc (Obj.cells #[Value.int IntKind.i64 a, Value.int IntKind.i64 b] 58)).setCell ⟨B, 0, none⟩ (.int .i64 a)).cell? ⟨B, 1, none⟩ = some x1 := by
    simp [World.cell?, World.setCell, Array.getElem?_modify, al.at_]
  have z1 : ((w.alloc (Obj.cells #[Value.int IntKind.i64 a, Value.int IntKind.i64 b] 58)).setCell ⟨B, 0, none⟩ (.int .i64 a)).frozen? ⟨B, 1, none⟩ = false := by
    simp [World.frozen?, World.setCell, Array.getElem?_modify, al.at_]
  refine callsD_of_wpS Tryz.func120 rfl fun c₀ cs hu => ?_
  apply wpS_seq
  apply wpS_region
  simp [wpOpsS, go_sem, recoverD, hu, Tryz.ntmps120, Exit.thenS]
  apply wpS_seq
  apply wpS_region
  simp [wpOpsS, go_sem, Exit.thenS]
  refine wpS_cond (t := true) (by simp [Act.eval, Array.replicate]) ?_
  simp only [if_true]
  apply wpS_seq
  apply wpS_region
  simp [wpOpsS, go_sem, Exit.thenS, hta]
  apply wpS_seq
  apply wpS_seq
  apply wpS_region
  simp [wpOpsS, go_sem, Exit.thenS]
  refine wpS_cond (t := false) (by simp [Act.eval, Array.replicate]) ?_
  simp only [Bool.false_eq_true, if_false]
  refine wpS_of_wp (wp_skip ?_)
  simp only [Exit.thenS]
  apply wpS_region
  simp [wpOpsS, go_sem, c0, z0, c1, z1]
  refine ⟨rfl, _, rfl, .tuple #[], ?_, rfl, rfl, fin⟩
  simp [results, Tryz.results120]
set_option maxRecDepth 100000 in
theorem catch_sound : PrimSound Tryz.prog 75 (.grab 58) := by
  intro cl hcl args st out st' h G W vs hS ha
  have hmf : ∀ (fn : Fn) (first cap : Array Value) (w : World), (Instr.makeFunc fn first cap).run Tryz.prog w = .ok (.func fn first cap) w := fun _ _ _ _ => rfl
  simp only [primRun] at h
  split at h
  · rename_i g first cap
    obtain ⟨vf, hv, fs, cs, rfl, r1, r2⟩ := reps_single ha rfl
    obtain rfl : vs = #[.func (.func g) fs cs] := Array.ext' (by simpa using hv)
    cases hd : doCall cl g (first ++ cap) st with
    | none => rw [hd] at h; cases h
    | some r =>
      have hl0 : Good G W G st (W.alloc (.cells #[.int .i64 0, .int .i64 0] 58)) := Good.alloc hS _
      have hdo := doCall_sound hcl (vs := fs ++ cs) hl0.sim (by simpa using r1.append r2) hd
      have hent : (callFunc 75 #[.func (.func g) fs cs]).run Tryz.prog W = .ok (.enter 75 #[.func (.func g) fs cs]) W := by
        simp [callFunc, Tryz.func75, Tryz.f75]
      have hsz : W.heap.size < (W.alloc (.cells #[.int .i64 0, .int .i64 0] 58)).heap.size := by simp
      have hat : (W.alloc (.cells #[.int .i64 0, .int .i64 0] 58)).heap[W.heap.size]? = some (.cells #[.int .i64 0, .int .i64 0] 58 (0, 0)) := heap_alloc_new W _
      have nt : ¬ TB G W.heap.size := fun t => Nat.lt_irrefl _ (hS.lt_tb t)
      -- behind the call
      have post : ∀ {G1 : Ghost} {st1 : St} {W1 W2 : World} {v : V} {c : Array Value} {u : Value}, Good G (W.alloc (.cells #[.int .i64 0, .int .i64 0] 58)) G1 st1 W1 → Turned W.heap.size c 58 W1 W2 → Rep G1 v u →
          (match gc st.length [v] st1 with | some ([v'], st'') => some (Out.ret v', st'') | _ => none) = some (out, st') → Post G W out st' (.returned u) W2 := by
        intro G1 st1 W1 W2 v c u g1 ht hr hgc
        have g2 : Good G W G1 st1 W2 := (hl0.trans g1).turned hS ht (Nat.le_refl _) (fun o => by rw [g1.ext.immK _ hsz nt o]; exact hS.imm_new o) (fun t => nt (g1.ext.tb _ hsz t))
        cases hg : gc st.length [v] st1 with
        | none => rw [hg] at hgc; cases hgc
        | some p =>
          obtain ⟨vs', st2⟩ := p
          have hvl := gc_length hg
          match vs', hvl with
          | [v'], _ =>
            rw [hg] at hgc
            simp only [Option.some.injEq, Prod.mk.injEq] at hgc
            obtain ⟨rfl, rfl⟩ := hgc
            obtain ⟨G3, g3, r3⟩ := gc_sound hS g2 (vs := [v]) (us := [u]) ⟨u, [], rfl, hr, rfl⟩ hg
            obtain ⟨u', e, r4⟩ := reps_single r3 rfl
            cases e
            exact ⟨G3, u, g3, rfl, r4⟩
      have keep : ∀ {G1 : Ghost} {st1 : St} {W1 : World}, Good G (W.alloc (.cells #[.int .i64 0, .int .i64 0] 58)) G1 st1 W1 → W1.heap[W.heap.size]? = some (.cells #[.int .i64 0, .int .i64 0] 58 (0, 0)) := fun {G1 st1 W1} g1 => by
        rw [g1.ext.keep _ hsz nt]; exact hat
      rw [hd] at h
      simp only at h
      unfold Does
      rw [hent]
      simp only
      go_enter_defers Tryz.func75, Tryz.ntmps75
      go_wp2
      refine upon_does hdo (fun u W1 hR => ?_) (fun ch W1 hR => ?_) (fun W1 hR => ?_)
      · obtain ⟨G1, u', hp⟩ := hR
        cases r with
        | panic v st1 => obtain ⟨_, e, _⟩ := hp; cases e
        | val v st1 =>
          obtain ⟨g1, e, hr⟩ := hp
          cases e
          have hk := keep g1
          have c0 : W1.cell? ⟨W.heap.size, 0, none⟩ = some (.int .i64 0) := by simp [World.cell?, hk]
          have c1 : W1.cell? ⟨W.heap.size, 1, none⟩ = some (.int .i64 0) := by simp [World.cell?, hk]
          have z0 : W1.frozen? ⟨W.heap.size, 0, none⟩ = false := by simp [World.frozen?, hk]
          have z1 : W1.frozen? ⟨W.heap.size, 1, none⟩ = false := by simp [World.frozen?, hk]
          have T := turned_set (a := .int .i64 0) (b := .int .i64 0) hk
          have d0 : ((W1.setCell ⟨W.heap.size, 0, none⟩ (.int .i64 0)).setCell ⟨W.heap.size, 1, none⟩ (.int .i64 0)).cell? ⟨W.heap.size, 0, none⟩ = some (.int .i64 0) := by simp [World.cell?, T.at_]
          have d1 : ((W1.setCell ⟨W.heap.size, 0, none⟩ (.int .i64 0)).setCell ⟨W.heap.size, 1, none⟩ (.int .i64 0)).cell? ⟨W.heap.size, 1, none⟩ = some (.int .i64 0) := by simp [World.cell?, T.at_]
          go_wp2
          refine leaves_cons (f := 120) (args := #[.pointer (some ⟨W.heap.size, 0, none⟩)]) (by simp) (by simp [go_sem]) ?_
          refine (catch_idle ⟨W.heap.size, 0, none⟩ _).mono ?_
          rintro e u' w'' ⟨rfl, rfl, rfl⟩
          have fin := post g1 T (v := .agg [.int .i64 0, .int .i64 0]) (u := .agg #[.int .i64 0, .int .i64 0]) ⟨_, rfl, _, _, rfl, rfl, _, _, rfl, rfl, rfl⟩ h
          simp [Leaves, settle, results, Tryz.results75, go_sem, d0, d1, fin]
      · obtain ⟨G1, u', hp⟩ := hR
        cases r with
        | val v st1 => obtain ⟨_, e, _⟩ := hp; cases e
        | panic v st1 =>
          obtain ⟨g1, e, hr⟩ := hp
          cases e
          have hk := keep g1
          unfold catchRes at h
          split at h <;> try (cases h; done)
          rename_i hres
          split at hres
          · rename_i he
            cases he
          · rename_i t a b st2 he
            cases he
            split at hres
            · rename_i ht
              subst ht
              cases hres
              obtain ⟨y, rfl, hy⟩ := hr
              obtain ⟨ys, rfl, hys⟩ := hy
              obtain ⟨y0, yr, e0, h0, y1, yr', e1, h1, hnil⟩ := hys
              cases e1
              simp only [Rep, Reps] at h0 h1 hnil
              subst h0; subst h1; subst hnil
              obtain rfl : ys = #[.int .i64 a, .int .i64 b] := Array.ext' e0
              go_wp2
              refine leaves_cons (f := 120) (args := #[.pointer (some ⟨W.heap.size, 0, none⟩)]) (by simp) (by simp [go_sem]) ?_
              refine (catch_panicking W.heap.size a b [] _ hk).mono ?_
              rintro e u' w'' ⟨rfl, rfl, T⟩
              have d0 : w''.cell? ⟨W.heap.size, 0, none⟩ = some (.int .i64 a) := by simp [World.cell?, T.at_]
              have d1 : w''.cell? ⟨W.heap.size, 1, none⟩ = some (.int .i64 b) := by simp [World.cell?, T.at_]
              have fin := post g1 T (v := .agg [.int .i64 a, .int .i64 b]) (u := .agg #[.int .i64 a, .int .i64 b]) ⟨_, rfl, _, _, rfl, rfl, _, _, rfl, rfl, rfl⟩ h
              simp [Leaves, settle, results, Tryz.results75, go_sem, d0, d1, fin]
            · cases hres
          · cases hres
      · obtain ⟨G1, u', hp⟩ := hR
        cases r with
        | val v st1 => obtain ⟨_, e, _⟩ := hp; cases e
        | panic v st1 => obtain ⟨_, e, _⟩ := hp; cases e
  · cases h
end Go.Abs
namespace Go.Abs
open Go Go.Proofs
theorem Tryz.ti3 : ti Tryz.prog 3 = some { d := D.int IntKind.i64, size := 1, bytes := 8, zero := V.int IntKind.i64 (0 : Int), eqOk := true } := by kernel_rfl
theorem Tryz.ti4 : ti Tryz.prog 4 = some { d := D.bool, size := 1, bytes := 1, zero := V.bool false, eqOk := true } := by kernel_rfl
theorem Tryz.ti5 : ti Tryz.prog 5 = some { d := D.int IntKind.u8, size := 1, bytes := 1, zero := V.int IntKind.u8 (0 : Int), eqOk := true } := by kernel_rfl
theorem Tryz.ti9 : ti Tryz.prog 9 = some { d := D.string, size := 1, bytes := 16, zero := V.str [], eqOk := true } := by kernel_rfl
theorem Tryz.ti22 : ti Tryz.prog 22 = some { d := D.slice 94, size := 1, bytes := 24, zero := V.slice Own.full [], eqOk := true } := by kernel_rfl
theorem Tryz.ti23 : ti Tryz.prog 23 = some { d := D.slice 46, size := 1, bytes := 24, zero := V.slice Own.full [], eqOk := true } := by kernel_rfl
theorem Tryz.ti24 : ti Tryz.prog 24 = some { d := D.slice 80, size := 1, bytes := 24, zero := V.slice Own.full [], eqOk := true } := by kernel_rfl
theorem Tryz.ti25 : ti Tryz.prog 25 = some { d := D.slice 84, size := 1, bytes := 24, zero := V.slice Own.full [], eqOk := true } := by kernel_rfl
theorem Tryz.ti26 : ti Tryz.prog 26 = some { d := D.slice 28, size := 1, bytes := 24, zero := V.slice Own.full [], eqOk := true } := by kernel_rfl
theorem Tryz.ti28 : ti Tryz.prog 28 = some { d := D.struct [(0, 3), (1, 9), (2, 9), (3, 9), (4, 22), (5, 23), (6, 23), (7, 23), (8, 24), (9, 25), (10, 3), (11, 3), (12, 4), (13, 4), (14, 26)], size := 15, bytes := 248, zero := V.agg [V.int IntKind.i64 (0 : Int), V.str [], V.str [], V.str [], V.slice Own.full [], V.slice Own.full [], V.slice Own.full [], V.slice Own.full [], V.slice Own.full [], V.slice Own.full [], V.int IntKind.i64 (0 : Int), V.int IntKind.i64 (0 : Int), V.bool false, V.bool false, V.slice Own.full []], eqOk := true } := by kernel_rfl
theorem Tryz.ti29 : ti Tryz.prog 29 = some { d := D.func, size := 1, bytes := 8, zero := V.nilfunc, eqOk := true } := by kernel_rfl
theorem Tryz.ti44 : ti Tryz.prog 44 = some { d := D.struct [(0, 3), (1, 3), (2, 9)], size := 3, bytes := 32, zero := V.agg [V.int IntKind.i64 (0 : Int), V.int IntKind.i64 (0 : Int), V.str []], eqOk := true } := by kernel_rfl
theorem Tryz.ti46 : ti Tryz.prog 46 = some { d := D.struct [(0, 9), (1, 44), (4, 9), (5, 9), (6, 23)], size := 7, bytes := 104, zero := V.agg [V.str [], V.int IntKind.i64 (0 : Int), V.int IntKind.i64 (0 : Int), V.str [], V.str [], V.str [], V.slice Own.full []], eqOk := true } := by kernel_rfl
theorem Tryz.ti56 : ti Tryz.prog 56 = some { d := D.int IntKind.i64, size := 1, bytes := 8, zero := V.int IntKind.i64 (0 : Int), eqOk := true } := by kernel_rfl
theorem Tryz.ti58 : ti Tryz.prog 58 = some { d := D.struct [(0, 56), (1, 3)], size := 2, bytes := 16, zero := V.agg [V.int IntKind.i64 (0 : Int), V.int IntKind.i64 (0 : Int)], eqOk := true } := by kernel_rfl
theorem Tryz.ti64 : ti Tryz.prog 64 = some { d := D.slice 125, size := 1, bytes := 24, zero := V.slice Own.full [], eqOk := true } := by kernel_rfl
theorem Tryz.ti80 : ti Tryz.prog 80 = some { d := D.struct [(0, 9), (1, 46)], size := 8, bytes := 120, zero := V.agg [V.str [], V.str [], V.int IntKind.i64 (0 : Int), V.int IntKind.i64 (0 : Int), V.str [], V.str [], V.str [], V.slice Own.full []], eqOk := true } := by kernel_rfl
theorem Tryz.ti84 : ti Tryz.prog 84 = some { d := D.struct [(0, 3), (1, 9), (2, 9)], size := 3, bytes := 40, zero := V.agg [V.int IntKind.i64 (0 : Int), V.str [], V.str []], eqOk := true } := by kernel_rfl
theorem Tryz.ti94 : ti Tryz.prog 94 = some { d := D.struct [(0, 9), (1, 3), (2, 4), (3, 4)], size := 4, bytes := 32, zero := V.agg [V.str [], V.int IntKind.i64 (0 : Int), V.bool false, V.bool false], eqOk := true } := by kernel_rfl
theorem Tryz.ti100 : ti Tryz.prog 100 = some { d := D.slice 9, size := 1, bytes := 24, zero := V.slice Own.full [], eqOk := true } := by kernel_rfl
theorem Tryz.ti109 : ti Tryz.prog 109 = some { d := D.pointer 141, size := 1, bytes := 8, zero := V.nil, eqOk := true } := by kernel_rfl
theorem Tryz.ti111 : ti Tryz.prog 111 = some { d := D.func, size := 1, bytes := 8, zero := V.nilfunc, eqOk := true } := by kernel_rfl
theorem Tryz.ti121 : ti Tryz.prog 121 = some { d := D.pointer 123, size := 1, bytes := 8, zero := V.nil, eqOk := true } := by kernel_rfl
theorem Tryz.ti123 : ti Tryz.prog 123 = some { d := D.struct [(0, 9), (1, 3)], size := 2, bytes := 24, zero := V.agg [V.str [], V.int IntKind.i64 (0 : Int)], eqOk := true } := by kernel_rfl
theorem Tryz.ti125 : ti Tryz.prog 125 = some { d := D.struct [(0, 3), (1, 3), (2, 3), (3, 9)], size := 4, bytes := 40, zero := V.agg [V.int IntKind.i64 (0 : Int), V.int IntKind.i64 (0 : Int), V.int IntKind.i64 (0 : Int), V.str []], eqOk := true } := by kernel_rfl
theorem Tryz.ti138 : ti Tryz.prog 138 = some { d := D.slice 5, size := 1, bytes := 24, zero := V.slice Own.full [], eqOk := true } := by kernel_rfl
theorem Tryz.ti141 : ti Tryz.prog 141 = some { d := D.struct [(0, 64)], size := 1, bytes := 24, zero := V.agg [V.slice Own.full []], eqOk := true } := by kernel_rfl
theorem Tryz.ti173 : ti Tryz.prog 173 = some { d := D.iface, size := 1, bytes := 16, zero := V.niliface, eqOk := true } := by kernel_rfl
end Go.Abs
namespace Go.Abs
set_option linter.unusedSimpArgs false
set_option linter.unusedVariables false
open Go Go.Proofs
def replP : List V → Option V
  | [.str s, .str old, .str new] => if s.length < 4294967281 ∧ 1 ≤ old.length ∧ s.length + Lib.count s old * new.length ≤ 140737488355328 then some (.str (Lib.replaceAll s old new)) else none
  | _ => none
def strsOf : List V → Option (List (List UInt8))
  | [] => some []
  | .str s :: r => (strsOf r).map (s :: ·)
  | _ :: _ => none
def joinP : List V → Option V
  | [.slice _ xs, .str sep] => match strsOf xs with
    | some ss => if ss.length ≤ 140737488355328 ∧ (Lib.join ss sep).length ≤ 140737488355328 then some (.str (Lib.join ss sep)) else none
    | none => none
  | _ => none
def parseP : List V → Option V
  | [.str s, .int .i64 a, .int .i64 b] => if a = 10 ∧ b = 64 ∧ s.length ≤ 281474976710656 then (match Lib.parseIntB 64 s with
    | .ok v => some (.tup [.int .i64 v, .niliface])
    | .range => some (.tup [.int .i64 (Lib.intSat 64 s), .iface 223 .undef])
    | _ => none) else none
  | _ => none
def itoaP : List V → Option V
  | [.int .i64 n] => if -9223372036854775808 ≤ n ∧ n ≤ 9223372036854775807 then some (.str (Lib.itoa n)) else none
  | _ => none
def upperP : List V → Option V
  | [.str s] => if s.length ≤ 140737488355328 ∧ s.all (fun b => decide (b.toNat < 128)) = true then some (.str (Lib.toUpperA s)) else none
  | _ => none
def pr0 : Prims := fun f => if f = 137 then some (.pure replP) else if f = 87 then some (.pure joinP) else if f = 75 then some (.grab 58) else if f = 159 then some (.pure parseP) else if f = 89 then some (.pure itoaP) else if f = 93 then some (.pure upperP) else none
noncomputable def EV : Oracle := ev Tryz.prog pr0
theorem EV_mki {f : FuncId} {fn : Func} {c : Code} (hp : pr0 f = none) (hf : Tryz.prog.funcs[f]? = some fn) (hb : fn.body = some c) (ho : okDraws c = true) (hi : iceF f = false) (a : List V) (s : St) :
    EV f a s = @mki Tryz.prog EV s.length fn.results.toList ⟨[.code c]⟩ (a ++ List.replicate (fn.ntmps - a.length) .undef) s := ev_mki hp hf hb ho hi a s
theorem EV_mki0 {f : FuncId} {fn : Func} {c : Code} (hp : pr0 f = none) (hf : Tryz.prog.funcs[f]? = some fn) (hb : fn.body = some c) (ho : okDraws c = true) (a : List V) (s : St) :
    EV f a s = iceO f s.length (@mki Tryz.prog EV s.length fn.results.toList ⟨[.code c]⟩ (a ++ List.replicate (fn.ntmps - a.length) .undef) s) := ev_mki0 hp hf hb ho a s
theorem strsOf_map : ∀ l : List (List UInt8), strsOf (l.map V.str) = some l
  | [] => rfl
  | x :: l => by simp [strsOf, strsOf_map l]
end Go.Abs
