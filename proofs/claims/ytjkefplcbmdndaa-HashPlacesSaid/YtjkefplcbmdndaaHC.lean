/-
  HC: the whole of it.
-/
import Derived.Test.YtjkefplcbmdndaaHC18
