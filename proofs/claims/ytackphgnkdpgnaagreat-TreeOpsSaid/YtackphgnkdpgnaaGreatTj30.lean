/-
  DERIVED. The reference's Applied and InverseOf, whatever the operation's kind. Conditions: sizes; an operation without error.
  By an AI agent.
-/
import Derived.Test.YtackphgnkdpgnaaGreatTj19
import Derived.Test.YtackphgnkdpgnaaGreatTj20
import Derived.Test.YtackphgnkdpgnaaGreatTj21
import Derived.Test.YtackphgnkdpgnaaGreatTj22
import Derived.Test.YtackphgnkdpgnaaGreatTj23
import Derived.Test.YtackphgnkdpgnaaGreatTj27
import Derived.Test.YtackphgnkdpgnaaGreatTj28
import Derived.Test.YtackphgnkdpgnaaGreatTj29
namespace Go.Proofs.YtackphgnkdpgnaaGreat
open Go.RowKit

/-- the reference's Applied -/
theorem appliedR_any (l : List Bl) (f : Int → Option Int) (G : Good l f) (A : Option Addr) (n c : Nat) (o : Opn) (Av : Option Addr) (nv cv : Nat) (w : World) (B : Nat) (hB : B ≤ w.heap.size) (h : RB w B (.slice A n c) l) (hv : RV w B (.slice Av nv cv) o.val.items) (hoi : OI o) (he : opErr l f o = 0) :
    Calls Tryz.prog 12 #[.slice A n c, AO (o, .slice Av nv cv)] w (ApplR (applied l o) w) := by
  cases G.op_facts he with
  | ins hk => exact appliedR1 l f G A n c o hk Av nv cv w B hB h hv hoi he
  | rem hk => exact appliedR2 l f G A n c o hk Av nv cv w B hB h hv hoi he
  | mov hk => exact appliedR3 l f G A n c o hk Av nv cv w B hB h hv hoi he
  | edit hk => exact appliedR4 l f G A n c o hk Av nv cv w B hB h hv hoi he
  | set hk => exact appliedR5 l f G A n c o hk Av nv cv w B hB h hv hoi he
/-- the reference's InverseOf -/
theorem inverseOf_any (l : List Bl) (f : Int → Option Int) (G : Good l f) (A : Option Addr) (n c : Nat) (o : Opn) (Av : Option Addr) (nv cv : Nat) (w : World) (B : Nat) (hB : B ≤ w.heap.size) (h : RB w B (.slice A n c) l) (hoi : OI o) (he : opErr l f o = 0) :
    Calls Tryz.prog 10 #[.slice A n c, AO (o, .slice Av nv cv)] w (InvR (invO l o) w) := by
  cases G.op_facts he with
  | ins hk => exact inverseOf_k1 l f G A n c o hk Av nv cv w B hB h hoi he
  | rem hk => exact inverseOf_k2 l f G A n c o hk Av nv cv w B hB h hoi he
  | mov hk => exact inverseOf_k3 l f G A n c o hk Av nv cv w B hB h hoi he
  | edit hk => exact inverseOf_k4 l f G A n c o hk Av nv cv w B hB h hoi he
  | set hk => exact inverseOf_k5 l f G A n c o hk Av nv cv w B hB h hoi he
end Go.Proofs.YtackphgnkdpgnaaGreat
