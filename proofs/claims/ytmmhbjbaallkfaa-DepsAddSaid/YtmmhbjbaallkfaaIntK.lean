/- The keys of a map of ints to bools. -/
import Derived.Test.YtmmhbjbaallkfaaIntA
import Derived.Test.YtmmhbjbaallkfaaGxLK
namespace Go.Proofs.Ytmmhbjbaallkfaa.Gx
open Go
set_option linter.unusedSimpArgs false
set_option linter.unusedVariables false

theorem F72_eq (l b : Nat) (W : World) (R : Value → World → Prop) : F72 l b W R = KeysF Try.prog l b W R := rfl
theorem it72 {w : World} {b1 : Nat} {mo : MO} {ks : List Int} (hI : KeysI b1 mo w) (hks : KeysE mo ks) (hl : ks.length ≤ 1000000) : IntIt 72 #[.pointer (some ⟨b1, 0, none⟩)] w fun xs => xs.Perm ks :=
  keysIt en72 (fun l W R h => F72_ok l b1 W R (by rw [F72_eq]; exact h)) hI hks hl

end Go.Proofs.Ytmmhbjbaallkfaa.Gx
