/- The walk of the law LexQuotes. -/
import Derived.Test.YtebblpmocheelaaDoorLexR3
import Derived.Test.YtebblpmocheelaaDoorLexL2
namespace Go.Proofs.YtebblpmocheelaaDoor
open Go.RowKit

set_option maxHeartbeats 8000000 in
set_option maxRecDepth 1000000 in
theorem lexQuotes_walk (s : ByteArray) (w : World) (hE : Env w) (hs : s.size ≤ 9223372036854775807) :
    Calls Tryd.prog 3 #[.string s] w fun e w' => e = .returned (.bool true) ∧ Below w.heap.size w w' := by
  have cA := alive_walk w hE
  by_cases hbig : 500 < s.size
  · go_enter Tryd.func3, Tryd.ntmps3
    go_wp2_with (go_at_call 7; refine cA.mono ?_; rintro e w1 ⟨rfl, hb1⟩)
    go_ret
    exact ⟨rfl, hb1⟩
  · have hsm : s.size ≤ 65536 := by omega
    have h500 : s.size ≤ 500 := by omega
    have cQ := fun W (hW : Env W) => quote_walk s W hW hsm
    have cR := fun W (hW : Env W) => refQuote_walk s W hW hsm
    have cW := fun W (hW : Env W) => isWord_walk s W hW hsm
    have cRW := fun W => refIsWord_walk s W
    have cT := fun W (hW : Env W) => isText_walk s W hW hsm
    have cRT := fun W (hW : Env W) => refIsText_walk s W hW hsm
    rw [isWordL_eq] at cW
    rw [isTextR_eq] at cRT
    have hq0 := quoteA_eq s
    have hlx := lexA_quote s h500
    have hql := (escB_len s.data.toList).2
    rw [← Lib.size_eq] at hql
    generalize decide (s.data.toList ∈ wl) = wd at cW cRW
    have hxx : ∀ q : List UInt8, ((⟨q.toArray⟩ : ByteArray).toList == (⟨q.toArray⟩ : ByteArray).toList) = true := fun q => by simp
    cases ht : isTextL s.data.toList with
    | false =>
      rw [ht] at cT cRT hq0
      rw [if_neg (by simp)] at hq0
      rw [hq0] at cQ cR
      clear hlx ht hq0
      go_enter Tryd.func3, Tryd.ntmps3
      go_wp2_with fail
      refine cA.mono ?_
      clear cA
      rintro e w1 ⟨rfl, hB1⟩
      go_wp2_with fail
      refine (cQ w1 (hE.below hB1)).mono ?_
      rintro e w2 ⟨rfl, hb2⟩
      have hB2 := below_chain hB1 hB1.size hb2
      go_wp2_with fail
      refine (cW w2 (hE.below hB2)).mono ?_
      rintro e w3 ⟨rfl, hw⟩
      obtain rfl := hw.symm
      go_wp2_with fail
      refine (cRW w2).mono ?_
      rintro e w4 ⟨rfl, hb4⟩
      have hB4 := below_chain hB2 hB2.size hb4
      go_wp2_with fail
      refine (cT w4 (hE.below hB4)).mono ?_
      rintro e w5 ⟨rfl, hb5⟩
      have hB5 := below_chain hB4 hB4.size hb5
      go_wp2_with fail
      refine (cRT w5 (hE.below hB5)).mono ?_
      rintro e w6 ⟨rfl, hb6⟩
      have hB6 := below_chain hB5 hB5.size hb6
      go_wp2_with fail
      refine (cR w6 (hE.below hB6)).mono ?_
      rintro e w7 ⟨rfl, hb7⟩
      have hB7 := below_chain hB6 hB6.size hb7
      go_wp2_with fail
      refine (cRT w7 (hE.below hB7)).mono ?_
      rintro e w8 ⟨rfl, hb8⟩
      have hB8 := below_chain hB7 hB7.size hb8
      go_wp2_with fail
      go_ret
      exact ⟨rfl, hB8⟩
    | true =>
      have hlx2 := hlx ht
      rw [ht] at cT cRT hq0
      rw [if_pos rfl] at hq0
      have hlen : (quoteA s).length ≤ 1002 := by rw [hq0]; simp; omega
      clear hlx hq0 ht
      generalize hqq : quoteA s = q at cQ cR hlx2 hlen
      clear hqq
      have cL := fun W (hW : Env W) => lex_walk ⟨q.toArray⟩ W hW (by rw [mk_size]; omega)
      rw [hlx2] at cL
      clear hlx2
      go_enter Tryd.func3, Tryd.ntmps3
      go_wp2_with fail
      refine cA.mono ?_
      clear cA
      rintro e w1 ⟨rfl, hB1⟩
      go_wp2_with fail
      refine (cQ w1 (hE.below hB1)).mono ?_
      rintro e w2 ⟨rfl, hb2⟩
      have hB2 := below_chain hB1 hB1.size hb2
      go_wp2_with fail
      refine (cW w2 (hE.below hB2)).mono ?_
      rintro e w3 ⟨rfl, hw⟩
      obtain rfl := hw.symm
      go_wp2_with fail
      refine (cRW w2).mono ?_
      rintro e w4 ⟨rfl, hb4⟩
      have hB4 := below_chain hB2 hB2.size hb4
      go_wp2_with fail
      refine (cT w4 (hE.below hB4)).mono ?_
      rintro e w5 ⟨rfl, hb5⟩
      have hB5 := below_chain hB4 hB4.size hb5
      go_wp2_with fail
      refine (cRT w5 (hE.below hB5)).mono ?_
      rintro e w6 ⟨rfl, hb6⟩
      have hB6 := below_chain hB5 hB5.size hb6
      go_wp2_with fail
      refine (cR w6 (hE.below hB6)).mono ?_
      rintro e w7 ⟨rfl, hb7⟩
      have hB7 := below_chain hB6 hB6.size hb7
      go_wp2_with fail
      refine (cRT w7 (hE.below hB7)).mono ?_
      rintro e w8 ⟨rfl, hb8⟩
      have hB8 := below_chain hB7 hB7.size hb8
      go_wp2_with fail
      refine (cL w8 (hE.below hB8)).mono ?_
      rintro e w9 ⟨hb9, v, rfl, hown⟩
      have hB9 := below_chain hB8 hB8.size hb9
      obtain ⟨g, cap, rfl, hg, hcap, hcell⟩ := own_shape hown (by simp)
      have hown2 := hown.alloc (.cells #[.int .i64 0, .int .i64 0] 28)
      have hF := CellsAt.new w9 28 #[.int .i64 0, .int .i64 0]
      have hB10 := hB9.alloc hB9.size (.cells #[.int .i64 0, .int .i64 0] 28)
      have x0 : (w9.alloc (.cells #[.int .i64 0, .int .i64 0] 28)).cell? ⟨w9.heap.size, 0, none⟩ = some (.int .i64 0) := hF.cell 0
      have x1 : (w9.alloc (.cells #[.int .i64 0, .int .i64 0] 28)).cell? ⟨w9.heap.size, 1, none⟩ = some (.int .i64 0) := hF.cell 1
      have q0 := hown2.cellAt 0 (by simp)
      have q1 := hown2.cellAt 1 (by simp)
      have q7 := hown2.cellAt 7 (by simp)
      have hgz : g < (w9.alloc (.cells #[.int .i64 0, .int .i64 0] 28)).heap.size := by simp; omega
      simp only [tokCells, List.flatMap_cons, List.cons_append, List.nil_append, List.getElem?_cons_zero, List.getElem?_cons_succ] at q0 q1 q7
      have hcap2 : 2 ≤ cap := by simpa using hcap
      have hqs : ((⟨s.data.toList.toArray⟩ : ByteArray).toList == s.toList) = true := by simp [ByteArray.toList_eq]
      have hqs2 : (s.data.toList == s.toList) = true := by simp [ByteArray.toList_eq]
      clear hF hown hown2 hcell hcap cQ cR cW cRW cT cRT
      go_wp2_with fail
      go_ret
      exact ⟨rfl, hB10⟩
end Go.Proofs.YtebblpmocheelaaDoor
