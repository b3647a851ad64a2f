/-
  Arrays of the function's own are given up for rows, and with them what the frame knows of them.
-/
import Derived.Test.YtdehdgbdcfkpbaaGreatDoorJPwLoop
namespace Go.Pw
open Go
section
variable {P : Program} {Gl : Glob} {B : Base} {env : List PV} {st : List PObj} {Q : Post}
theorem pw_freezeW (F : Nat → Bool) {c : Code} {st' : List PObj} (hs : FSt F st 0 st st') (h : PW P Gl B c (env.map (wipe fun i => !(F i))) st' Q) : PW P Gl B c env st Q :=
  pw_freeze F hs (FLe.wipeF F st env) h
end
end Go.Pw
