/- The shelf stands in one text here. -/
import Derived.Test.YtkmchnggcjmchaaDoorShelf
