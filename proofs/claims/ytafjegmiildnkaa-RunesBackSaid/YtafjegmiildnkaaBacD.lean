/- Encodings that are read back: nothing to define. -/
import Derived.Test.YtafjegmiildnkaaRunD
import Derived.Test.YtafjegmiildnkaaEncD
import Derived.Test.YtafjegmiildnkaaDecD
namespace Go.Bac
end Go.Bac
