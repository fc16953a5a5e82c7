/-
  What Same compares of a token.
-/
import Derived.Test.YtblbcojkjknfdaaTok
namespace Go.Proofs.Ytblbcojkjknfdaa
abbrev KeyT : Type := Int × ByteArray × ByteArray × Bool × List Atr
noncomputable instance : DecidableEq KeyT := fun a b => Classical.propDecidable (a = b)
def key (t : Tok) : KeyT := (t.kind, t.name, t.data, t.self, t.ats)
end Go.Proofs.Ytblbcojkjknfdaa
