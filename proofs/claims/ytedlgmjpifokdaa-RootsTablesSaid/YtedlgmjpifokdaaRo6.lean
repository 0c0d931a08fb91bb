/-
  The tables of chapter 6 are roots of the first primes; what its laws need besides. No program is in sight here.
-/
import Derived.Test.YtedlgmjpifokdaaRo3
import Derived.Test.YtedlgmjpifokdaaRo5
namespace Go.Sym
open Go

def bgn : Nat → BitVec 64 := lst 0 [0x6a09e667f3bcc908#64, 0xbb67ae8584caa73b#64, 0x3c6ef372fe94f82b#64, 0xa54ff53a5f1d36f1#64, 0x510e527fade682d1#64, 0x9b05688c2b3e6c1f#64, 0x1f83d9abfb41bd6b#64, 0x5be0cd19137e2179#64]
def rk : Nat → BitVec 64 := lst 0 [0x428a2f98d728ae22#64, 0x7137449123ef65cd#64, 0xb5c0fbcfec4d3b2f#64, 0xe9b5dba58189dbbc#64, 0x3956c25bf348b538#64, 0x59f111f1b605d019#64, 0x923f82a4af194f9b#64, 0xab1c5ed5da6d8118#64, 0xd807aa98a3030242#64, 0x12835b0145706fbe#64, 0x243185be4ee4b28c#64, 0x550c7dc3d5ffb4e2#64, 0x72be5d74f27b896f#64, 0x80deb1fe3b1696b1#64, 0x9bdc06a725c71235#64, 0xc19bf174cf692694#64, 0xe49b69c19ef14ad2#64, 0xefbe4786384f25e3#64, 0x0fc19dc68b8cd5b5#64, 0x240ca1cc77ac9c65#64, 0x2de92c6f592b0275#64, 0x4a7484aa6ea6e483#64, 0x5cb0a9dcbd41fbd4#64, 0x76f988da831153b5#64, 0x983e5152ee66dfab#64, 0xa831c66d2db43210#64, 0xb00327c898fb213f#64, 0xbf597fc7beef0ee4#64, 0xc6e00bf33da88fc2#64, 0xd5a79147930aa725#64, 0x06ca6351e003826f#64, 0x142929670a0e6e70#64, 0x27b70a8546d22ffc#64, 0x2e1b21385c26c926#64, 0x4d2c6dfc5ac42aed#64, 0x53380d139d95b3df#64, 0x650a73548baf63de#64, 0x766a0abb3c77b2a8#64, 0x81c2c92e47edaee6#64, 0x92722c851482353b#64, 0xa2bfe8a14cf10364#64, 0xa81a664bbc423001#64, 0xc24b8b70d0f89791#64, 0xc76c51a30654be30#64, 0xd192e819d6ef5218#64, 0xd69906245565a910#64, 0xf40e35855771202a#64, 0x106aa07032bbd1b8#64, 0x19a4c116b8d2d0c8#64, 0x1e376c085141ab53#64, 0x2748774cdf8eeb99#64, 0x34b0bcb5e19b48a8#64, 0x391c0cb3c5c95a63#64, 0x4ed8aa4ae3418acb#64, 0x5b9cca4f7763e373#64, 0x682e6ff3d6b2b8a3#64, 0x748f82ee5defb2fc#64, 0x78a5636f43172f60#64, 0x84c87814a1f0ab72#64, 0x8cc702081a6439ec#64, 0x90befffa23631e28#64, 0xa4506cebde82bde9#64, 0xbef9a3f7b2c67915#64, 0xc67178f2e372532b#64, 0xca273eceea26619c#64, 0xd186b8c721c0c207#64, 0xeada7dd6cde0eb1e#64, 0xf57d4f7fee6ed178#64, 0x06f067aa72176fba#64, 0x0a637dc5a2c898a6#64, 0x113f9804bef90dae#64, 0x1b710b35131c471b#64, 0x28db77f523047d84#64, 0x32caab7b40c72493#64, 0x3c9ebe0a15c9bebc#64, 0x431d67c49c100d4c#64, 0x4cc5d4becb3e42b6#64, 0x597f299cfc657e2a#64, 0x5fcb6fab3ad6faec#64, 0x6c44198c4a475817#64]
def sqT : List Nat := [26087635650665564424, 31950697969885030203, 41248173712355948587, 48805497317890012913, 61180928696206656209, 66510681623121259551, 76057874264641092971, 80407493254657745273]
def cuT : List Nat := [23241441160490167842, 26604808713878332877, 31543488660544240431, 35287351959220771772, 41025191555757552952, 43374469216020582425, 47431773444313272219, 49223322299838333208, 52460086356995146306, 56674242196778545086, 57948244932766773900, 61468643694135456994, 63608380943893236079, 64626287408284341937, 66571091106846937653, 69291241975837173396, 71813108563482594002, 72615556083564357091, 74922338351982630325, 76384605279477341285, 77095200552867529333, 79152035218479047811, 80466001307761769428, 82360010132597855157, 84757271453788200875, 85906662539289440784, 86470001012957192511, 87575168524888248036, 88117443448470540226, 89182409882623190821, 92723033081372705391, 93686458245878541936, 95095488024300105724, 95556006044611561766, 97794660939065469677, 98230277650290947039, 99514478923103560670, 100766364611844223656, 101583977345534766822, 102786266195516601659, 103961068102722061156, 104346826991781163009, 106234157551817627537, 106603670640207904304, 107335108066752287256, 107697117917222381840, 109819772810290077738, 111863398698143437240, 112528278492720320712, 112857792170093030227, 113511107980111571865, 114477206417490790568, 114795642568024087139, 116361942610802215627, 117281838038729876339, 118187525164200278179, 119079540232616391420, 119373928427484032864, 120248493880617511794, 120824543361758411244, 121110519679094562344, 122520547622920568297, 124441674862916172053, 124979807718728684331, 125247145020423037340, 125778422408467759623, 127603441353585912606, 128369846764518166904, 129627222056361226170, 129875788766833580198, 130370087684295691694, 131104582549941012251, 132071287192121802116, 132787134709014930579, 133495346155087314620, 133963344184962190668, 134659270149180113590, 135576127461610847786, 136029942151059536620, 136928597060811708439]
theorem tab1_all : ((List.range 8).all fun i => decide (sqT.getD i 0 ^ 2 ≤ sqG (pvN i)) && decide (sqG (pvN i) < (sqT.getD i 0 + 1) ^ 2) && decide (bgn i = BitVec.ofNat 64 (sqT.getD i 0))) = true := by decide +kernel
theorem tab2_all : ((List.range 80).all fun i => decide (cuT.getD i 0 ^ 3 ≤ cuG (pvN i)) && decide (cuG (pvN i) < (cuT.getD i 0 + 1) ^ 3) && decide (rk i = BitVec.ofNat 64 (cuT.getD i 0))) = true := by decide +kernel
theorem tab1 {i : Nat} (h : i < 8) : bgn i = sqU (pv i) := by
  have e := List.all_eq_true.1 tab1_all i (List.mem_range.2 h)
  simp only [Bool.and_eq_true, decide_eq_true_eq] at e
  have hp := pv_toNat (i := i) (by omega)
  have hb := pvN_at (i := i) (by omega)
  rw [sqU_yes (by omega), hp, rt_is (by decide) (sqG_lt (by omega)) e.1.1 e.1.2]
  exact e.2
theorem tab2 {i : Nat} (h : i < 80) : rk i = cuU (pv i) := by
  have e := List.all_eq_true.1 tab2_all i (List.mem_range.2 h)
  simp only [Bool.and_eq_true, decide_eq_true_eq] at e
  have hp := pv_toNat (i := i) (by omega)
  have hb := pvN_at (i := i) (by omega)
  rw [cuU_yes (by omega), hp, rt_is (by decide) (cuG_lt80 (by omega)) e.1.1 e.1.2]
  exact e.2
theorem pv_first : pv 0 = 2#64 := by decide +kernel
theorem alive1 : sqU 2#64 = 7640891576956012808#64 := by rw [← pv_first, ← tab1 (by decide)]; rfl
theorem alive2 : cuU 2#64 = 4794697086780616226#64 := by rw [← pv_first, ← tab2 (by decide)]; rfl
theorem pn_80 : pn ((80 : Nat) : Int) = 80 := by decide
theorem pn_3 : pn ((3 : Nat) : Int) = 3 := by decide
theorem pn_max' (n : Int) : (if (if ((100 : Nat) : Int) < n then ((100 : Nat) : Int) else n) > ((0 : Nat) : Int) then (if ((100 : Nat) : Int) < n then ((100 : Nat) : Int) else n) else ((0 : Nat) : Int)) = ((pn n : Nat) : Int) := pn_max n
theorem lt542 {p n : Nat} (h : p ≤ 542) (hc : cnt p < n) (hn : n ≤ 100) : p < 542 := by
  rcases Nat.lt_or_ge p 542 with q | q
  · exact q
  · obtain rfl : p = 542 := by omega
    rw [cnt_all] at hc; omega
theorem own_pr {m0 c d : Nat} {e : TypeId} {v : Value} {w0 w : World} {L Lx : List Blk} (hc : c = d) (h : Own m0 e v (prC c) Lx) (hM : Mem w0 w (L ++ Lx)) : Rd w v d (fun i => U (pv i)) := by
  subst hc; exact h.rdCells hM
theorem b_neqNt {t : TypeId} {x y : Nat} (h : x = y) : binOp .neq t (N x) (N y) = pure (.bool false) := by rw [b_neqN, decide_eq_true h]; rfl
theorem b_neqUt {t : TypeId} {x y : BitVec 64} (h : x = y) : binOp .neq t (U x) (U y) = pure (.bool false) := by rw [b_neqU, decide_eq_true h]; rfl
theorem b_lssNt {t : TypeId} {x y : Nat} (h : x < y) : binOp .lss t (N x) (N y) = pure (.bool true) := by rw [b_lssN, decide_eq_true h]
theorem b_lssNf {t : TypeId} {x y : Nat} (h : ¬ x < y) : binOp .lss t (N x) (N y) = pure (.bool false) := by rw [b_lssN, decide_eq_false h]
theorem and_le (n m : BitVec 64) : (n &&& m).toNat ≤ m.toNat := by rw [BitVec.toNat_and]; exact Nat.and_le_right
theorem near1 {n : BitVec 64} {k : Nat} (hk : k < 6) (h : (BitVec.ofNat 64 k).toNat < (2#64 * (n &&& 65534#64)).toNat) :
    (sqU ((n &&& 65534#64) * (n &&& 65534#64) + BitVec.ofNat 64 k)).toNat < (sqU ((n &&& 65534#64) * (n &&& 65534#64) + BitVec.ofNat 64 k + 1#64)).toNat := by
  have ha : (n &&& 65534#64).toNat ≤ 65534 := and_le n 65534#64
  generalize n &&& 65534#64 = a at *
  have h2 := Nat.mul_le_mul ha ha
  have k1 : (BitVec.ofNat 64 k).toNat = k := ofNat_toNat_lt (by omega)
  have e0 : (2#64 * a).toNat = 2 * a.toNat := by rw [BitVec.toNat_mul]; simp only [BitVec.toNat_ofNat]; omega
  rw [k1, e0] at h
  have e1 : (a * a + BitVec.ofNat 64 k).toNat = a.toNat * a.toNat + k := by rw [BitVec.toNat_add, BitVec.toNat_mul, k1, Nat.mod_eq_of_lt (a := a.toNat * a.toNat) (by omega), Nat.mod_eq_of_lt (by omega)]
  have e2 : (a * a + BitVec.ofNat 64 k + 1#64).toNat = a.toNat * a.toNat + k + 1 := by rw [BitVec.toNat_add, e1]; simp only [BitVec.toNat_ofNat]; omega
  rw [sqU_yes (by omega), sqU_yes (by omega), e1, e2]
  exact near_sq (a := a.toNat) (by omega) (by omega) (by omega)
theorem near2 {n : BitVec 64} {k : Nat} (hk : k < 6) (h : (BitVec.ofNat 64 k).toNat < (3#64 * (n &&& 1022#64)).toNat) :
    (cuU ((n &&& 1022#64) * (n &&& 1022#64) * (n &&& 1022#64) + BitVec.ofNat 64 k)).toNat < (cuU ((n &&& 1022#64) * (n &&& 1022#64) * (n &&& 1022#64) + BitVec.ofNat 64 k + 1#64)).toNat := by
  have ha : (n &&& 1022#64).toNat ≤ 1022 := and_le n 1022#64
  generalize n &&& 1022#64 = a at *
  have h2 := Nat.mul_le_mul ha ha
  have h3 := Nat.mul_le_mul h2 ha
  have k1 : (BitVec.ofNat 64 k).toNat = k := ofNat_toNat_lt (by omega)
  have e0 : (3#64 * a).toNat = 3 * a.toNat := by rw [BitVec.toNat_mul]; simp only [BitVec.toNat_ofNat]; omega
  rw [k1, e0] at h
  have e1 : (a * a * a + BitVec.ofNat 64 k).toNat = a.toNat * a.toNat * a.toNat + k := by rw [BitVec.toNat_add, BitVec.toNat_mul, BitVec.toNat_mul, k1, Nat.mod_eq_of_lt (a := a.toNat * a.toNat) (by omega), Nat.mod_eq_of_lt (a := a.toNat * a.toNat * a.toNat) (by omega), Nat.mod_eq_of_lt (by omega)]
  have e2 : (a * a * a + BitVec.ofNat 64 k + 1#64).toNat = a.toNat * a.toNat * a.toNat + k + 1 := by rw [BitVec.toNat_add, e1]; simp only [BitVec.toNat_ofNat]; omega
  rw [cuU_yes (by omega), cuU_yes (by omega), e1, e2]
  exact near_cu (b := a.toNat) (by omega) (by omega) (by omega)
end Go.Sym
