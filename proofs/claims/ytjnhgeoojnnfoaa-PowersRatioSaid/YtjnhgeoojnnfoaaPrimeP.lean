/-
  The prime of chapter 9 is prime, and each number below it other than 0 is a power of 2. No program is in sight here.
-/
import Derived.Test.YtjnhgeoojnnfoaaFe
import Derived.Test.YtjnhgeoojnnfoaaPrime
namespace Go.Sym

theorem pr2 : Pr 2 := pr_small 3 (by decide) (by decide +kernel)
theorem pr3 : Pr 3 := pr_small 3 (by decide) (by decide +kernel)
theorem pr5 : Pr 5 := pr_small 4 (by decide) (by decide +kernel)
theorem pr7 : Pr 7 := pr_small 4 (by decide) (by decide +kernel)
theorem pr13 : Pr 13 := pr_small 5 (by decide) (by decide +kernel)
theorem pr19 : Pr 19 := pr_small 6 (by decide) (by decide +kernel)
theorem pr31 : Pr 31 := pr_small 7 (by decide) (by decide +kernel)
theorem pr47 : Pr 47 := pr_small 8 (by decide) (by decide +kernel)
theorem pr107 : Pr 107 := pr_small 12 (by decide) (by decide +kernel)
theorem pr127 : Pr 127 := pr_small 13 (by decide) (by decide +kernel)
theorem pr223 : Pr 223 := pr_small 16 (by decide) (by decide +kernel)
theorem pr353 : Pr 353 := pr_small 20 (by decide) (by decide +kernel)
theorem pr2437 : Pr 2437 := pr_small 51 (by decide) (by decide +kernel)
theorem pr4153 : Pr 4153 := pr_small 66 (by decide) (by decide +kernel)
theorem pr57467 : Pr 57467 := pr_small 241 (by decide) (by decide +kernel)
theorem pr65147 : Pr 65147 := pr_small 257 (by decide) (by decide +kernel)
theorem pr75707 : Pr 75707 := pr_small 277 (by decide) (by decide +kernel)
theorem pr132049 : Pr 132049 := pr_small 365 (by decide) (by decide +kernel)
theorem pr430751 : Pr 430751 := pr_small 658 (by decide) (by decide +kernel)
theorem pr569003 : Pr 569003 := pr_small 756 (by decide) (by decide +kernel)
theorem pr1923133 : Pr 1923133 := pr_small 1388 (by decide) (by decide +kernel)
theorem pr8574133 : Pr 8574133 := pr_small 2930 (by decide) (by decide +kernel)
theorem genX0 : Gen 2773320623 5 := prattB_gen (l := [2, 2437, 569003]) (by decide +kernel) (by decide +kernel) (fun q hq => by
    simp only [List.mem_cons, List.not_mem_nil, or_false] at hq
    rcases hq with rfl | rfl | rfl
    · exact pr2
    · exact pr2437
    · exact pr569003) (by decide +kernel)
theorem prX0 : Pr 2773320623 := genX0.prime
theorem genX1 : Gen 72106336199 7 := prattB_gen (l := [2, 13, 2773320623]) (by decide +kernel) (by decide +kernel) (fun q hq => by
    simp only [List.mem_cons, List.not_mem_nil, or_false] at hq
    rcases hq with rfl | rfl | rfl
    · exact pr2
    · exact pr13
    · exact prX0) (by decide +kernel)
theorem prX1 : Pr 72106336199 := genX1.prime
theorem genX3 : Gen 1919519569386763 2 := prattB_gen (l := [2, 3, 7, 19, 47, 47, 127, 8574133]) (by decide +kernel) (by decide +kernel) (fun q hq => by
    simp only [List.mem_cons, List.not_mem_nil, or_false] at hq
    rcases hq with rfl | rfl | rfl | rfl | rfl | rfl | rfl | rfl
    · exact pr2
    · exact pr3
    · exact pr7
    · exact pr19
    · exact pr47
    · exact pr47
    · exact pr127
    · exact pr8574133) (by decide +kernel)
theorem prX3 : Pr 1919519569386763 := genX3.prime
theorem genX4 : Gen 31757755568855353 10 := prattB_gen (l := [2, 2, 2, 3, 31, 107, 223, 4153, 430751]) (by decide +kernel) (by decide +kernel) (fun q hq => by
    simp only [List.mem_cons, List.not_mem_nil, or_false] at hq
    rcases hq with rfl | rfl | rfl | rfl | rfl | rfl | rfl | rfl | rfl
    · exact pr2
    · exact pr2
    · exact pr2
    · exact pr3
    · exact pr31
    · exact pr107
    · exact pr223
    · exact pr4153
    · exact pr430751) (by decide +kernel)
theorem prX4 : Pr 31757755568855353 := genX4.prime
theorem genX5 : Gen 75445702479781427272750846543864801 7 := prattB_gen (l := [2, 2, 2, 2, 2, 3, 3, 5, 5, 75707, 72106336199, 1919519569386763]) (by decide +kernel) (by decide +kernel) (fun q hq => by
    simp only [List.mem_cons, List.not_mem_nil, or_false] at hq
    rcases hq with rfl | rfl | rfl | rfl | rfl | rfl | rfl | rfl | rfl | rfl | rfl | rfl
    · exact pr2
    · exact pr2
    · exact pr2
    · exact pr2
    · exact pr2
    · exact pr3
    · exact pr3
    · exact pr5
    · exact pr5
    · exact pr75707
    · exact prX1
    · exact prX3) (by decide +kernel)
theorem prX5 : Pr 75445702479781427272750846543864801 := genX5.prime
theorem genX6 : Gen 74058212732561358302231226437062788676166966415465897661863160754340907 2 := prattB_gen (l := [2, 3, 353, 57467, 132049, 1923133, 31757755568855353, 75445702479781427272750846543864801]) (by decide +kernel) (by decide +kernel) (fun q hq => by
    simp only [List.mem_cons, List.not_mem_nil, or_false] at hq
    rcases hq with rfl | rfl | rfl | rfl | rfl | rfl | rfl | rfl
    · exact pr2
    · exact pr3
    · exact pr353
    · exact pr57467
    · exact pr132049
    · exact pr1923133
    · exact prX4
    · exact prX5) (by decide +kernel)
theorem prX6 : Pr 74058212732561358302231226437062788676166966415465897661863160754340907 := genX6.prime
theorem genX7 : Gen pP 2 := prattB_gen (l := [2, 2, 3, 65147, 74058212732561358302231226437062788676166966415465897661863160754340907]) (by decide +kernel) (by decide +kernel) (fun q hq => by
    simp only [List.mem_cons, List.not_mem_nil, or_false] at hq
    rcases hq with rfl | rfl | rfl | rfl | rfl
    · exact pr2
    · exact pr2
    · exact pr3
    · exact pr65147
    · exact prX6) (by decide +kernel)
theorem gen_p : Gen pP 2 := genX7
theorem pr_p : Pr pP := gen_p.prime
end Go.Sym
