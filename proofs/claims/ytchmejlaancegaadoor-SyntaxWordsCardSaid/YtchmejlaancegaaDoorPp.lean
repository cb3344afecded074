/-
  Parse, whole.
-/
import Derived.Test.YtchmejlaancegaaDoorLc
import Derived.Test.YtchmejlaancegaaDoorLs
import Derived.Test.YtchmejlaancegaaDoorPo
import Derived.Test.YtchmejlaancegaaDoorPays
namespace Lx
open Go
open Go.Proofs (Tryd.prog)
theorem Parse_OK : OK Tryd.prog 14 parseS := parse_OK Lg.item_pay (toks_OK pint_OK idx_OK)
theorem Tokens_OK : OK Tryd.prog 21 toksS := toks_OK pint_OK idx_OK
end Lx
