/- Plain: what replacing all of one byte is. -/
import Derived.Lib.Replace
import Derived.Lib.CountLaws
namespace Go.Abs
open Go

/- a text's quotes, doubled -/
def quoteE (s : List UInt8) : List UInt8 := s.flatMap fun b => if b = 39 then [39, 39] else [b]
theorem quoteE_len : ∀ s : List UInt8, (quoteE s).length ≤ 2 * s.length
  | [] => by simp [quoteE]
  | b :: l => by
    have h := quoteE_len l
    have e : quoteE (b :: l) = (if b = 39 then [39, 39] else [b]) ++ quoteE l := rfl
    rw [e, List.length_append, List.length_cons]
    split
    · simp only [List.length_cons, List.length_nil]; omega
    · simp only [List.length_cons, List.length_nil]; omega
theorem index_cons (x b : UInt8) (l : List UInt8) : Lib.index (b :: l) [x] = if x = b then 0 else if Lib.index l [x] = -1 then -1 else Lib.index l [x] + 1 := by
  rw [Lib.index]
  by_cases h : x = b
  · simp [h, List.isPrefixOf]
  · simp [h, List.isPrefixOf]
theorem replaceK_one (x : UInt8) (new : List UInt8) : ∀ s : List UInt8, Lib.replaceK [x] new (Lib.count s [x]) s = s.flatMap fun b => if b = x then new else [b]
  | [] => by
    have h : Lib.index [] [x] = -1 := rfl
    rw [Lib.count_miss h]
    rfl
  | b :: l => by
    have ih := replaceK_one x new l
    have hne : [x] ≠ ([] : List UInt8) := by simp
    rw [List.flatMap_cons, ← ih]
    by_cases hb : x = b
    · have h0 : Lib.index (b :: l) [x] = ((0 : Nat) : Int) := by rw [index_cons, if_pos hb]; rfl
      rw [Lib.count_hit hne h0, Nat.add_comm, Lib.replaceK_hit _ _ _ _ 0 h0]
      simp [hb]
    · rw [if_neg (fun e => hb e.symm)]
      by_cases hi : Lib.index l [x] = -1
      · have h0 : Lib.index (b :: l) [x] = -1 := by rw [index_cons, if_neg hb, if_pos hi]
        rw [Lib.count_miss h0, Lib.count_miss hi]
        rfl
      · have hge := Lib.index_ge l [x]
        obtain ⟨j, hj⟩ : ∃ j : Nat, Lib.index l [x] = j := ⟨(Lib.index l [x]).toNat, by omega⟩
        have h0 : Lib.index (b :: l) [x] = ((j + 1 : Nat) : Int) := by rw [index_cons, if_neg hb, if_neg hi, hj]; omega
        rw [Lib.count_hit hne h0, Lib.count_hit hne hj, Nat.add_comm 1, Nat.add_comm 1, Lib.replaceK_hit _ _ _ _ _ h0, Lib.replaceK_hit _ _ _ _ _ hj]
        simp
theorem replaceAll_one (x : UInt8) (new s : List UInt8) (h : [x] ≠ new) : Lib.replaceAll s [x] new = s.flatMap fun b => if b = x then new else [b] := by
  unfold Lib.replaceAll Lib.replace
  have h' : ([x] == new) = false := by simpa using h
  rw [h', if_neg (by simp)]
  have : Lib.replaceNum s [x] (-1) = Lib.count s [x] := by simp [Lib.replaceNum]
  rw [this, replaceK_one]
end Go.Abs
