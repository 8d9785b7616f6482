/- Depths of two rows of texts, by evaluation. -/
import Derived.Test.YtpoghableadkcaaDoorM20
namespace Go.Proofs.YtpoghableadkcaaDoor
set_option linter.unusedVariables false

/-- n times,one behind the other. -/
def rep:Nat→Bs→Bs
 | 0,_=>[]
 | n + 1,l=>rep n l ++ l
def dpE (k:Nat):ByteArray:=⟨(rep k [33,32] ++ [120]).toArray⟩
def dpB (k:Nat):ByteArray:=⟨([105,110,105,116,32,123,32] ++ rep k [123,32] ++ [115,107,105,112] ++ rep k [32,125] ++ [32,125]).toArray⟩
/-- What is told of a thing that is k and one more deep. -/
def deepOk {A:Type} (k:Nat) (r:Res A):Bool:=match r with
 | .ok _=>decide (k < 60)
 | .bad c a=>decide (60 ≤ k) && c == 3 && a == 0
theorem deep_all {p:Nat→Bool} {a n k:Nat} (h:((List.range n).all fun i=>p (a + i))=true) (h1:a ≤ k) (h2:k < a + n):p k=true:=by
 have:=List.all_eq_true.1 h (k - a) (List.mem_range.2 (by omega))
 rwa [show a + (k - a)=k by omega] at this
set_option maxRecDepth 100000 in
theorem dpE0:((List.range 60).all fun i=>deepOk (0 + i) (exprRes 200 (dpE (0 + i))))=true:=by decide +kernel
set_option maxRecDepth 100000 in
theorem dpE60:((List.range 30).all fun i=>deepOk (60 + i) (exprRes 200 (dpE (60 + i))))=true:=by decide +kernel
set_option maxRecDepth 100000 in
theorem dpE90:((List.range 30).all fun i=>deepOk (90 + i) (exprRes 200 (dpE (90 + i))))=true:=by decide +kernel
set_option maxRecDepth 100000 in
theorem dpB0:((List.range 40).all fun i=>deepOk (0 + i) (parseRes 500 4 (dpB (0 + i))))=true:=by decide +kernel
set_option maxRecDepth 100000 in
theorem dpB40:((List.range 20).all fun i=>deepOk (40 + i) (parseRes 500 4 (dpB (40 + i))))=true:=by decide +kernel
set_option maxRecDepth 100000 in
theorem dpB60:((List.range 20).all fun i=>deepOk (60 + i) (parseRes 500 4 (dpB (60 + i))))=true:=by decide +kernel
set_option maxRecDepth 100000 in
theorem dpB80:((List.range 20).all fun i=>deepOk (80 + i) (parseRes 500 4 (dpB (80 + i))))=true:=by decide +kernel
set_option maxRecDepth 100000 in
theorem dpB100:((List.range 20).all fun i=>deepOk (100 + i) (parseRes 500 4 (dpB (100 + i))))=true:=by decide +kernel
theorem dpE_at {k:Nat} (h:k < 120):deepOk k (exprRes 200 (dpE k))=true:=by
 rcases Nat.lt_or_ge k 60 with h0 | h0
 ·exact deep_all (p:=fun k=>deepOk k (exprRes 200 (dpE k))) dpE0 (by omega) (by omega)
 rcases Nat.lt_or_ge k 90 with h1 | h1
 ·exact deep_all (p:=fun k=>deepOk k (exprRes 200 (dpE k))) dpE60 (by omega) (by omega)
 exact deep_all (p:=fun k=>deepOk k (exprRes 200 (dpE k))) dpE90 (by omega) (by omega)
theorem dpB_at {k:Nat} (h:k < 120):deepOk k (parseRes 500 4 (dpB k))=true:=by
 rcases Nat.lt_or_ge k 40 with h0 | h0
 ·exact deep_all (p:=fun k=>deepOk k (parseRes 500 4 (dpB k))) dpB0 (by omega) (by omega)
 rcases Nat.lt_or_ge k 60 with h1 | h1
 ·exact deep_all (p:=fun k=>deepOk k (parseRes 500 4 (dpB k))) dpB40 (by omega) (by omega)
 rcases Nat.lt_or_ge k 80 with h2 | h2
 ·exact deep_all (p:=fun k=>deepOk k (parseRes 500 4 (dpB k))) dpB60 (by omega) (by omega)
 rcases Nat.lt_or_ge k 100 with h3 | h3
 ·exact deep_all (p:=fun k=>deepOk k (parseRes 500 4 (dpB k))) dpB80 (by omega) (by omega)
 exact deep_all (p:=fun k=>deepOk k (parseRes 500 4 (dpB k))) dpB100 (by omega) (by omega)
end Go.Proofs.YtpoghableadkcaaDoor
