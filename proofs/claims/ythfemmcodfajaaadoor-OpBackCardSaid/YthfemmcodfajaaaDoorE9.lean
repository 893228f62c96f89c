/- An operation's text, read again: parts. -/
import Derived.Test.YthfemmcodfajaaaDoorE6
import Derived.Test.YthfemmcodfajaaaDoorE8
import Derived.Test.YthfemmcodfajaaaDoorG19
import Derived.Lib.Split
import Derived.Lib.Strings
set_option linter.unusedVariables false
set_option linter.unusedSimpArgs false
open Go Go.Gv
attribute [local irreducible] Go.Gv.WJ Go.Gv.OpJ Go.Gv.QJ Go.Gv.Spl Go.Gv.Req Go.Gv.IdxP Go.Gv.RegP Go.Gv.FinP Go.Gv.QuietP Go.Gv.CellP Go.Gv.CellsP Go.Gv.ArrP Go.Gv.ArrsP Go.Gv.DropP Go.Gv.ByteP Go.Gv.StoreP
set_option maxRecDepth 100000
namespace Go.Proofs.E
theorem index_no (c : UInt8) : ∀ (l : List UInt8), c ∉ l → Lib.index l [c] = -1
  | [], _ => by simp [Lib.index]
  | b :: l, h => by
    have h1 : c ≠ b := fun e => h (by simp [e])
    have h3 : ([c].isPrefixOf (b :: l)) = false := by simp [List.isPrefixOf, h1]
    rw [Lib.index, h3, index_no c l fun hc => h (by simp [hc])]
    rfl
theorem split3 (a b c : List UInt8) (h1 : (32 : UInt8) ∉ a) (h2 : (32 : UInt8) ∉ b) (h3 : (32 : UInt8) ∉ c) :
    Lib.count (a ++ 32 :: (b ++ 32 :: c)) [32] = 2 ∧ Lib.splitK [32] 0 2 (a ++ 32 :: (b ++ 32 :: c)) = [a, b, c] := by
  have i1 := index_at 32 (b ++ 32 :: c) a h1
  have i2 := index_at 32 c b h2
  have i3 := index_no 32 c h3
  have d1 : (a ++ 32 :: (b ++ 32 :: c)).drop (a.length + [(32 : UInt8)].length) = b ++ 32 :: c := by simp
  have d2 : (b ++ 32 :: c).drop (b.length + [(32 : UInt8)].length) = c := by simp
  constructor
  · rw [Lib.count_hit (by simp) i1, d1, Lib.count_hit (by simp) i2, d2, Lib.count_miss i3]
  · simp only [Lib.splitK]
    rw [i1, if_neg (by simp), show ((a.length : Int).toNat) = a.length by omega, d1, i2, if_neg (by simp), show ((b.length : Int).toNat) = b.length by omega, d2]
    simp
theorem Split3_c (a b c : List UInt8) (h1 : (32 : UInt8) ∉ a) (h2 : (32 : UInt8) ∉ b) (h3 : (32 : UInt8) ∉ c) (hl : a.length + b.length + c.length ≤ 1000000) :
    Cv 63 [sv (a ++ 32 :: (b ++ 32 :: c)), sv [32]] (.full 1 ([a, b, c].map fun s => [.v (.string ⟨⟨s⟩⟩)])) := by
  obtain ⟨s1, s2⟩ := split3 a b c h1 h2 h3
  have hc : Lib.countB ⟨⟨a ++ 32 :: (b ++ 32 :: c)⟩⟩ ⟨⟨[32]⟩⟩ = 2 := s1
  have hs := Lib.splitB_data ⟨⟨[32]⟩⟩ 0 2 ⟨⟨a ++ 32 :: (b ++ 32 :: c)⟩⟩
  rw [show (⟨⟨[32]⟩⟩ : ByteArray).data.toList = [32] from rfl, show (⟨⟨a ++ 32 :: (b ++ 32 :: c)⟩⟩ : ByteArray).data.toList = a ++ 32 :: (b ++ 32 :: c) from rfl, s2] at hs
  have hp : Lib.splitB ⟨⟨[32]⟩⟩ 0 2 ⟨⟨a ++ 32 :: (b ++ 32 :: c)⟩⟩ = [⟨⟨a⟩⟩, ⟨⟨b⟩⟩, ⟨⟨c⟩⟩] := by
    have inj : ∀ (x : ByteArray) (l : List UInt8), x.data.toList = l → x = ⟨⟨l⟩⟩ := fun x l h => by cases x; rename_i d; cases d; simp at h; subst h; rfl
    match hq : Lib.splitB ⟨⟨[32]⟩⟩ 0 2 ⟨⟨a ++ 32 :: (b ++ 32 :: c)⟩⟩, hs with
    | [x, y, z], hs =>
      simp only [List.map_cons, List.map_nil, List.cons.injEq, and_true] at hs
      rw [inj x a hs.1, inj y b hs.2.1, inj z c hs.2.2]
    | [], hs => simp at hs
    | [_], hs => simp at hs
    | [_, _], hs => simp at hs
    | _ :: _ :: _ :: _ :: _, hs => simp at hs
  refine Ct.of_alloc [.string ⟨⟨a ++ 32 :: (b ++ 32 :: c)⟩⟩, .string ⟨⟨[32]⟩⟩] [.string ⟨⟨a⟩⟩, .string ⟨⟨b⟩⟩, .string ⟨⟨c⟩⟩] 9 (fun u hu => by simp at hu; rcases hu with rfl | rfl | rfl <;> rfl) (by simp) fun w hΛ => ?_
  obtain ⟨m, hm⟩ := hΛ.2
  refine (Tryd.strings_Split ⟨⟨a ++ 32 :: (b ++ 32 :: c)⟩⟩ ⟨⟨[32]⟩⟩ m w (by show List.length _ < _; simp; omega) hm (by decide)).mono fun e w' ⟨he, hw⟩ => ?_
  rw [hc, hp] at hw
  rw [hc] at he
  exact ⟨he, hw⟩
theorem CutPrefix_c (s p : List UInt8) : Cv 61 [sv s, sv p] (.tup [sv (Lib.trimPrefix s p), bv (Lib.hasPrefix s p)]) :=
  Ct.of_calls fun γ H w vs hΛ hok hl hr => by
    have e := scalars_eq (xs := [.string ⟨⟨s⟩⟩, .string ⟨⟨p⟩⟩]) hl hr
    subst e
    refine (Tryd.strings_CutPrefix ⟨⟨s⟩⟩ ⟨⟨p⟩⟩ w).mono fun e w' ⟨he, hw⟩ => ⟨_, H, he, ?_, by rw [hw]; exact Mem.start hok γ⟩
    exact .tup _ [_, _] rfl (args_cons (.d _ _ (.v _ rfl)) (args_cons (.d _ _ (.v _ rfl)) args_nil))
theorem IndexByte_c (s : List UInt8) (c : UInt8) : Cv 72 [sv s, u8v c.toNat] (iv (Lib.indexByte s c)) :=
  Ct.of_calls_scalars [.string ⟨⟨s⟩⟩, .int .u8 c.toNat] rfl fun w hw => (Tryd.strings_IndexByte ⟨⟨s⟩⟩ c.toNat w).mono fun _ _ ⟨he, hw⟩ => ⟨by rw [he]; simp, by rw [hw]; exact Keeps.refl _ _⟩
end Go.Proofs.E
