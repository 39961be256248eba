/- Typed arguments. -/
import Derived.Test.YtjdnmifdkkohnaaShV
