/-
  Own work: stands for the text on trees' likeness at a seat that does not reach it.
-/
import Derived.Test.YtmanockofcopjaaDoorTree0
namespace Go.Proofs.YtmanockofcopjaaDoor.Con
end Go.Proofs.YtmanockofcopjaaDoor.Con
