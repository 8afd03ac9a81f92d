-- Written by wip/x/xprint.py (an own program, over the kit's print).
import Derived.Test.YtdhedlkfpdakpaaQEventReadsx0
import Derived.Test.YtdhedlkfpdakpaaQEventReadsx1
import Derived.Test.YtdhedlkfpdakpaaQEventReadsx2
import Derived.Test.YtdhedlkfpdakpaaQEventReadsx3
import Derived.Test.YtdhedlkfpdakpaaQEventReadsx4
import Derived.Test.YtdhedlkfpdakpaaQEventReadsx5
import Derived.Test.YtdhedlkfpdakpaaQEventReadsx6
import Derived.Test.YtdhedlkfpdakpaaQEventReadsx7
import Derived.Test.YtdhedlkfpdakpaaQEventReadsx8
import Derived.Test.YtdhedlkfpdakpaaQEventReadsx9
namespace Go.Proofs.Ytdhedlkfpdakpaa.QEventReads
open Go.RowKit Go.Proofs.YtdhedlkfpdakpaaW.PrintWords Go.Proofs.YtdhedlkfpdakpaaW.PrintLast Go.Proofs.YtdhedlkfpdakpaaW.PrintMore
attribute [local go_sem] max2_int min2_int max_two min_two max_three min_three max_four min_four   -- for this text's walks alone
set_option linter.unusedVariables false
set_option linter.unusedSimpArgs false

end Go.Proofs.Ytdhedlkfpdakpaa.QEventReads
