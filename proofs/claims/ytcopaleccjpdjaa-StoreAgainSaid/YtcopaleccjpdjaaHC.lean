/-
  HC: the whole of it.
-/
import Derived.Test.YtcopaleccjpdjaaHC18
