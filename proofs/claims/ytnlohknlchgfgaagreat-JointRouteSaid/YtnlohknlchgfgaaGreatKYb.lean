/- Texts joined into one (wip/bin/pack.py): All27. -/
import Derived.Test.YtnlohknlchgfgaaGreatKU
import Derived.Test.YtnlohknlchgfgaaGreatKYa
/- config.all, whatever function it is given. -/
namespace Go.Proofs.YtnlohknlchgfgaaGreat
open Go.RowKit Go.Lib Go.Shelf

def argsI (x : It) : Array Value := #[.int .i64 x.1, .int .u16 (sv x.2.1), .int .u16 (sv x.2.2.1), .int .u16 (sv x.2.2.2.1), .int .i64 x.2.2.2.2]
end Go.Proofs.YtnlohknlchgfgaaGreat
