/-
  All plain functions. Its conditions: none.
-/
import Derived.Test.YtchlkbnjamgihaaDoorP0
