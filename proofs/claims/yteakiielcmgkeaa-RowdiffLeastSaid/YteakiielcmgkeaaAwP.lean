/-
  The plain mathematics of layer 17: the law's own example. By an AI agent.
-/
import Derived.Test.YteakiielcmgkeaaPn
import Derived.Test.YteakiielcmgkeaaPlain2
import Derived.Test.YteakiielcmgkeaaChg
namespace Go.Proofs.Yteakiielcmgkeaa

def R.s1 : ByteArray := ⟨#[102, 105, 108, 101, 32, 49, 32, 111, 102, 32, 50]⟩
def R.s2 : ByteArray := ⟨#[102, 105, 108, 101, 32, 50, 32, 111, 102, 32, 50]⟩
def R.s3 : ByteArray := ⟨#[50]⟩
theorem R.ascii1 : ∀ i, i < R.s1.size → (Utf8.decode R.s1 i).2 = 1 := by decide +kernel
theorem R.ascii2 : ∀ i, i < R.s2.size → (Utf8.decode R.s2 i).2 = 1 := by decide +kernel
theorem R.ascii3 : ∀ i, i < R.s3.size → (Utf8.decode R.s3 i).2 = 1 := by decide +kernel
theorem R.aw : R.splices R.bl (R.pl R.s1 11) (R.pl R.s2 11) = [⟨5, 1, R.pl R.s3 1⟩] := by decide +kernel
theorem R.gl1 {xs : List R.Cs} {row : Int} (h : xs.map (·.c) = ([⟨5, 1, R.pl R.s3 1⟩] : List (R.Ch R.G)).map (R.Cx.of row)) : ∀ x ∈ xs, x.c.gl.length ≤ 100000 := by
  intro x hx
  have hm : x.c ∈ xs.map (·.c) := List.mem_map.2 ⟨x, hx, rfl⟩
  rw [h] at hm
  simp only [List.map_cons, List.map_nil, List.mem_singleton] at hm
  rw [hm]
  simp [R.Cx.of, R.pl_len]
end Go.Proofs.Yteakiielcmgkeaa
