/-
  THE MACHINE's SURROUNDINGS, FURTHER: calls whose results are known. No condition.
-/
import Derived.Test.YtaahfplokcfncaaGreatDoorAmTParse0
import Derived.Test.YtaahfplokcfncaaGreatDoorAmTParse1
namespace Go.AM
open Go.Proofs
set_option maxRecDepth 100000

def tParse : List (List UInt8 × V) := tParse0 ++ (tParse1 ++ (tParse2 ++ (tParse3 ++ (tParse4 ++ (tParse5 ++ (tParse6 ++ (tParse7 ++ (tParse8 ++ (tParse9 ++ (tParse10 ++ (tParse11 ++ (tParse12 ++ (tParse13 ++ (tParse14 ++ (tParse15 ++ (tParse16 ++ (tParse17 ++ (tParse18 ++ (tParse19 ++ (tParse20 ++ (tParse21 ++ (tParse22 ++ (tParse23 ++ (tParse24 ++ (tParse25 ++ (tParse26 ++ (tParse27 ++ (tParse28 ++ (tParse29 ++ (tParse30 ++ (tParse31 ++ (tParse32))))))))))))))))))))))))))))))))

end Go.AM
