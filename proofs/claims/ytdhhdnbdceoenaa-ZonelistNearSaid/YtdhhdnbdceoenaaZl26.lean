/- Zonelist: near, under the table of the program. -/
import Derived.Test.YtdhhdnbdceoenaaZl24
import Derived.Test.YtdhhdnbdceoenaaZl25
set_option linter.all false

namespace Go.AM
open Go Go.Proofs
theorem s7' : PSound Try.prog 7 (specF (ι := List Zx × Int × Bool) (fun x => [.rd 10 (zrows x.1), I x.2.1, B x.2.2]) fun _ => retOf [B true]) := s7 T12 lx12 cf12
end Go.AM
