import Derived.Test.YtalcoodidcehnaaDoorVtF
import Derived.Maps.AppendAt
namespace Go.Proofs.YtalcoodidcehnaaDoor
set_option linter.unusedVariables false
set_option linter.unusedSimpArgs false
open Go.RowKit
def pout (n : Nat) (l : List Vw) : List Vw := l.foldl (vpadd n) []
theorem pout_snoc (n : Nat) (l : List Vw) (x : Vw) : pout n (l ++ [x]) = if n < x.number ∧ x ∉ pout n l then pout n l ++ [x] else pout n l := by
  unfold pout
  rw [List.foldl_append]
  rfl
theorem pout_len (n : Nat) : ∀ (l out : List Vw), (l.foldl (vpadd n) out).length ≤ out.length + l.length
  | [], out => by simp
  | x :: l, out => by
    rw [List.foldl_cons]
    have h1 := pout_len n l (vpadd n out x)
    have h2 : (vpadd n out x).length ≤ out.length + 1 := by unfold vpadd; split <;> simp
    rw [List.length_cons]
    omega
theorem pout_ok {n : Nat} {l : List Vw} (h : ∀ x, x ∈ l → x.Ok) : ∀ x, x ∈ pout n l → x.Ok := fun x hx => by
  unfold pout at hx
  rw [vpadds_mem] at hx
  rcases hx with hx | hx
  · cases hx
  · exact h x hx.1
theorem vpends_take (l : List Rcd) (k : Nat) (hk : k < l.length) : vpends (l.take (k + 1)) = vpends (l.take k) ++ l[k].pend := by
  unfold vpends
  rw [List.take_succ_eq_append_getElem hk, List.map_append, List.flatten_append]
  simp only [List.map_cons, List.map_nil, List.flatten_cons, List.flatten_nil, List.append_nil]
theorem own_stay {w w' : World} {base : Nat} {e : TypeId} {sz n : Nat} {v : Value} {xs : List Value} (h : w.ownsRow base e sz v n xs) (hb : Below w.heap.size w w') : w'.ownsRow base e sz v n xs := by
  refine ⟨h.1, ?_⟩
  rcases h.2 with h0 | ⟨g, cap, cur, rfl, h1, h2, h3⟩
  · exact .inl h0
  · exact .inr ⟨g, cap, cur, rfl, h1, (hb.block g (Array.getElem?_eq_some_iff.1 h2).1).trans h2, h3⟩
theorem Recs.in {w wr : World} {A : Option Addr} {n c : Nat} {L : List Rcd} (h : Recs w (.slice A n c) L) (hb : Below w.heap.size w wr) (k : Nat) (hk : k < L.length) :
    ∃ b off A2 c2, A = some (⟨b, off, none⟩ : Addr) ∧ wr.cell? ⟨b, off + k * 5, none⟩ = some (.int .u64 (L[k].last.number : Int)) ∧ wr.cell? ⟨b, off + k * 5 + 1, none⟩ = some (.int .u64 (L[k].last.epoch : Int)) ∧ wr.cell? ⟨b, off + k * 5 + 2, none⟩ = some (.int .i64 L[k].last.rep) ∧ wr.cell? ⟨b, off + k * 5 + 3, none⟩ = some (.int .u64 (L[k].last.members : Int)) ∧
      wr.cell? ⟨b, off + k * 5 + 4, none⟩ = some (.slice A2 L[k].pend.length c2) ∧ b < wr.heap.size ∧ L[k].last.Ok ∧ Views w (.slice A2 L[k].pend.length c2) L[k].pend := by
  obtain ⟨b, off, A2, c2, hA, d0, d1, d2, d3, d4, hbl, hok, hpv⟩ := Recs.at h k hk
  have hc : ∀ i u, w.cell? ⟨b, i, none⟩ = some u → wr.cell? ⟨b, i, none⟩ = some u := fun i u hu => (hb.cell (p := ⟨b, i, none⟩) hbl).trans hu
  exact ⟨b, off, A2, c2, hA, hc _ _ d0, hc _ _ d1, hc _ _ d2, hc _ _ d3, hc _ _ d4, Nat.lt_of_lt_of_le hbl hb.size, hok, hpv⟩
theorem Views.in {w wr : World} {A : Option Addr} {n c : Nat} {L : List Vw} (h : Views w (.slice A n c) L) (hb : Below w.heap.size w wr) (k : Nat) (hk : k < L.length) :
    ∃ b off, A = some (⟨b, off, none⟩ : Addr) ∧ wr.cell? ⟨b, off + k * 4, none⟩ = some (.int .u64 (L[k].number : Int)) ∧ wr.cell? ⟨b, off + k * 4 + 1, none⟩ = some (.int .u64 (L[k].epoch : Int)) ∧ wr.cell? ⟨b, off + k * 4 + 2, none⟩ = some (.int .i64 L[k].rep) ∧ wr.cell? ⟨b, off + k * 4 + 3, none⟩ = some (.int .u64 (L[k].members : Int)) ∧ b < wr.heap.size ∧ L[k].Ok := by
  obtain ⟨b, off, hA, d0, d1, d2, d3, hbl, hok⟩ := Views.at h k hk
  have hc : ∀ i u, w.cell? ⟨b, i, none⟩ = some u → wr.cell? ⟨b, i, none⟩ = some u := fun i u hu => (hb.cell (p := ⟨b, i, none⟩) hbl).trans hu
  exact ⟨b, off, hA, hc _ _ d0, hc _ _ d1, hc _ _ d2, hc _ _ d3, Nat.lt_of_lt_of_le hbl hb.size, hok⟩
theorem vpends_len {l : List Rcd} (h : ∀ r, r ∈ l → r.pend.length ≤ 1000) : (vpends l).length ≤ 1000 * l.length := by
  induction l with
  | nil => simp [vpends]
  | cons r l ih =>
    have e : vpends (r :: l) = r.pend ++ vpends l := by simp [vpends]
    rw [e, List.length_append, List.length_cons]
    have := ih (fun q hq => h q (by simp [hq]))
    have := h r (by simp)
    omega
set_option maxRecDepth 20000 in
set_option maxHeartbeats 4000000 in
theorem vpend_any {w : World} {v : Value} {L : List Rcd} (hv : Recs w v L) (hl : FewR L) :
    Calls Tryd.prog 35 #[v] w fun e w' => ∃ v', e = .returned v' ∧ Below w.heap.size w w' ∧ w'.ownsRow w.heap.size 35 4 v' (vpend L).length ((vpend L).map viewCells).flatten := by
  obtain ⟨i0, hi, hz0, hz1, hz2⟩ := info_parts vw_info
  have hok0 := hv.ok
  obtain ⟨A, c, rfl, _⟩ := hv.slice
  obtain ⟨n, hn⟩ : ∃ n, n = L.length := ⟨_, rfl⟩
  have hn6 : n ≤ 1000 := by have := hl.len; omega
  have HN := Lib.hid hn
  have HP := Lib.hid hl.pend
  have HFW := Lib.hid hl
  have hpok : ∀ k, k ≤ n → ∀ j (hk : k < L.length), ∀ x, x ∈ vpends (L.take k) ++ L[k].pend.take j → x.Ok := fun k hk j hkl x hx => by
    rcases List.mem_append.1 hx with hx | hx
    · obtain ⟨r, hr, hx⟩ := mem_vpends.1 hx
      exact (hok0 r (List.mem_of_mem_take hr)).2 x hx
    · exact (hok0 L[k] (List.getElem_mem hkl)).2 x (List.mem_of_mem_take hx)
  have HPOK := Lib.hid hpok
  rw [← hn] at hv ⊢
  have HV := Lib.hid hv
  obtain ⟨la, hla⟩ : ∃ la, la = vlast L := ⟨_, rfl⟩
  have HLA := Lib.hid hla
  clear hv hl hn hok0 hpok hla
  go_enter Tryd.func35, Tryd.ntmps35
  go_wp2_with fail
  refine (vlast_any HV.out (by rw [← HN.out]; omega)).mono ?_
  rintro e w1 ⟨rfl, hb1⟩
  rw [← HLA.out]
  have HB1 := Lib.hid hb1
  obtain ⟨w2, hw2⟩ : ∃ w2, w2 = w1.alloc (.cells #[.int .u64 (la.number : Int), .int .u64 (la.epoch : Int), .int .i64 la.rep, .int .u64 (la.members : Int)] 35) := ⟨_, rfl⟩
  obtain ⟨g, hg⟩ : ∃ g, g = w1.heap.size := ⟨_, rfl⟩
  have hblk : Blk w2 g 35 (vwA la) := by rw [hw2]; exact Blk.new _ _ _ hg
  have hb2 : Below w.heap.size w w2 := by rw [hw2]; exact bal hb1 _
  have HG := Lib.hid hg
  have HBLK := Lib.hid hblk
  have HB2 := Lib.hid hb2
  have hs2 : w2.heap.size = g + 1 := by rw [hw2, hg]; simp
  have HS2 := Lib.hid hs2
  have HW2 := Lib.hid hw2
  clear hb1 hblk hb2 hg hs2 hw2
  go_wp2_with fail
  rw [← HG.out, ← HW2.out]
  go_loopw [3, 13] (fun a i wr => ∃ (k : Nat), k ≤ n ∧ i = .int .i64 k ∧ Hid (wr.ownsRow w2.heap.size 35 4 a (pout la.number (vpends (L.take k))).length ((pout la.number (vpends (L.take k))).map viewCells).flatten) ∧ Hid (Below w2.heap.size w2 wr)) (fun _ i _ => n - (intOf i).toNat)
  case atStart => exact ⟨0, by omega, rfl, World.ownsRow_nil _ _ _ _, Below.refl _ _⟩
  case round =>
    obtain ⟨k, hk, rfl, HO, HB⟩ := hrel
    have HBW := Lib.hid (HB2.out.trans (HB.out.mono HB2.out.size))
    by_cases hlt : k < n
    · have hlt2 : k < L.length := by rw [← HN.out]; exact hlt
      obtain ⟨b, off, A2, c2, rfl, d0, d1, d2, d3, d4, hbl, hok, hpv⟩ := HV.out.in HBW.out k hlt2
      have htk := vpends_take L k hlt2
      have hpl := HP.out L[k] (List.getElem_mem hlt2)
      have hpo := fun j => HPOK.out k hk j hlt2
      have hPl : (vpends (L.take k)).length ≤ 1000 * n := by
        have h1 := vpends_len (l := L.take k) (fun r hr => HP.out r (List.mem_of_mem_take hr))
        rw [List.length_take] at h1
        omega
      obtain ⟨r, hr⟩ : ∃ r, r = L[k] := ⟨_, rfl⟩
      rw [← hr] at d0 d1 d2 d3 d4 htk hpv hpl hpo
      obtain ⟨P, hP⟩ : ∃ P, P = vpends (L.take k) := ⟨_, rfl⟩
      rw [← hP] at htk HO hPl hpo
      obtain ⟨q, hq⟩ : ∃ q, q = r.pend.length := ⟨_, rfl⟩
      rw [← hq] at d4 hpv hpl
      have HPV := Lib.hid hpv
      have HTK := Lib.hid htk
      have HPO := Lib.hid hpo
      have HPL := Lib.hid hPl
      have HQ := Lib.hid hq
      have HOA := Lib.hid (own_stay HO.out (bal (Below.refl _ _) (.cells #[.int .u64 (r.last.number : Int), .int .u64 (r.last.epoch : Int), .int .i64 r.last.rep, .int .u64 (r.last.members : Int), .slice A2 q c2] 38)))
      have HBA := Lib.hid (HB.out.alloc HB.out.size (.cells #[.int .u64 (r.last.number : Int), .int .u64 (r.last.epoch : Int), .int .i64 r.last.rep, .int .u64 (r.last.members : Int), .slice A2 q c2] 38))
      clear hr hlt2 hok hpv htk hq hpo hP HO HB HBW hPl
      go_wp2_with fail
      go_loopw [3, 20] (fun a i wq => ∃ j : Nat, j ≤ q ∧ i = .int .i64 j ∧ Hid (wq.ownsRow w2.heap.size 35 4 a (pout la.number (P ++ r.pend.take j)).length ((pout la.number (P ++ r.pend.take j)).map viewCells).flatten) ∧ Hid (Below w2.heap.size w2 wq)) (fun _ i _ => q - (intOf i).toNat)
      case atStart => exact ⟨0, by omega, rfl, by rw [List.take_zero, List.append_nil]; exact HOA, HBA⟩
      case round =>
        clear HOA HBA
        obtain ⟨j, hj, rfl, HO, HB⟩ := hrel
        have HBW := Lib.hid (HB2.out.trans (HB.out.mono HB2.out.size))
        by_cases hjl : j < q
        · have hjl2 : j < r.pend.length := by rw [← HQ.out]; exact hjl
          obtain ⟨b3, off3, rfl, e0, e1, e2, e3, hbl3, hok3⟩ := HPV.out.in HBW.out j hjl2
          have hpt : P ++ r.pend.take (j + 1) = (P ++ r.pend.take j) ++ [r.pend[j]] := by rw [List.take_succ_eq_append_getElem hjl2, List.append_assoc]
          obtain ⟨y, hy⟩ : ∃ y, y = r.pend[j] := ⟨_, rfl⟩
          rw [← hy] at e0 e1 e2 e3 hpt hok3
          have hst := pout_snoc la.number (P ++ r.pend.take j) y
          rw [← hpt] at hst
          have hol : (pout la.number (P ++ r.pend.take j)).length ≤ 1100000 := by
            have h1 := pout_len la.number (P ++ r.pend.take j) []
            rw [List.length_append, List.length_take] at h1
            have := HPL.out
            unfold pout
            simp only [List.length_nil] at h1
            omega
          have hook := pout_ok (n := la.number) (HPO.out j)
          obtain ⟨O, hO⟩ : ∃ O, O = pout la.number (P ++ r.pend.take j) := ⟨_, rfl⟩
          rw [← hO] at hst hol HO hook
          obtain ⟨A5, l5, c5, rfl⟩ := own_sl HO.out
          have hx0 := (HBLK.out.below HB.out (by rw [HS2.out]; omega)).cell 0
          simp only [vwA] at hx0
          have hgl := (HBLK.out.below HB.out (by rw [HS2.out]; omega)).lt
          have HBY := Lib.hid (HB.out.alloc HB.out.size (.cells #[.int .u64 (y.number : Int), .int .u64 (y.epoch : Int), .int .i64 y.rep, .int .u64 (y.members : Int)] 35))
          have HOY := Lib.hid (own_stay HO.out (bal (Below.refl _ _) (.cells #[.int .u64 (y.number : Int), .int .u64 (y.epoch : Int), .int .i64 y.rep, .int .u64 (y.members : Int)] 35)))
          have HYB := Lib.hid (Blk.new wr 35 #[.int .u64 (y.number : Int), .int .u64 (y.epoch : Int), .int .i64 y.rep, .int .u64 (y.members : Int)] rfl)
          have HOK := Lib.hid hook
          have HYO := Lib.hid hok3
          have HOE := Lib.hid hO
          obtain ⟨o, ho⟩ : ∃ o, o = O.length := ⟨_, rfl⟩
          have HOL := Lib.hid ho
          rw [← ho] at hol
          clear hjl2 hook hok3 hpt hy hO HO HB HBW ho
          by_cases hc : la.number < y.number
          · have hd : decide (la.number < y.number) = true := decide_eq_true hc
            by_cases hin : y ∈ O
            · rw [if_neg (fun h => h.2 hin)] at hst
              have HST := Lib.hid hst
              have HIN := Lib.hid (decide_eq_true hin)
              clear hst hin hc
              go_wp2_with fail
              refine (vcontains_any (Views.of_own HOY.out rfl HOK.out) y (by rw [← HOL.out]; omega) HIN.out).mono ?_
              rintro e wc ⟨rfl, hbc⟩
              have HOC := Lib.hid (own_stay HOY.out hbc)
              have HBC := Lib.hid (HBY.out.trans (hbc.mono HBY.out.size))
              clear hbc
              go_wp2_with fail
              go_roundw
              case rel =>
                refine ⟨j + 1, by omega, by go_num, ?_, HBC⟩
                rw [HST.out]
                exact HOC
              case measure => simp [intOf] <;> omega
            · rw [if_pos ⟨hc, hin⟩] at hst
              have HST := Lib.hid hst
              have HIN := Lib.hid (decide_eq_false hin)
              clear hst hin hc
              go_wp2_with fail
              refine (vcontains_any (Views.of_own HOY.out rfl HOK.out) y (by rw [← HOL.out]; omega) HIN.out).mono ?_
              rintro e wc ⟨rfl, hbc⟩
              have hyb := HYB.out.stay hbc
              have y0 := hyb.cell 0
              have y1 := hyb.cell 1
              have y2 := hyb.cell 2
              have y3 := hyb.cell 3
              have HOC := Lib.hid (own_stay HOY.out hbc)
              have HBC := Lib.hid (HBY.out.trans (hbc.mono HBY.out.size))
              obtain ⟨news, hnews⟩ : ∃ news : List Value, news = [.int .u64 (y.number : Int), .int .u64 (y.epoch : Int), .int .i64 y.rep, .int .u64 (y.members : Int)] := ⟨_, rfl⟩
              have HON := Lib.hid (own_stay HOC.out (bal (Below.refl _ _) (.cells #[.int .u64 (y.number : Int), .int .u64 (y.epoch : Int), .int .i64 y.rep, .int .u64 (y.members : Int)] 35)))
              have HBN := Lib.hid (HBC.out.alloc HBC.out.size (.cells #[.int .u64 (y.number : Int), .int .u64 (y.epoch : Int), .int .i64 y.rep, .int .u64 (y.members : Int)] 35))
              have HNW := Lib.hid (show viewCells y = news by rw [hnews]; rfl)
              have hcl := cells_new wc #[.int .u64 (y.number : Int), .int .u64 (y.epoch : Int), .int .i64 y.rep, .int .u64 (y.members : Int)] 35 news (g := wc.heap.size) rfl hnews.symm
              have HCL := Lib.hid hcl
              have HN4 := Lib.hid (show news.length = 1 * 4 by rw [hnews]; rfl)
              have HN1 := Lib.hid (show ∀ u ∈ news, u.oneCell' = true by rw [hnews]; simp [Value.oneCell'])
              clear hbc hyb hnews hcl
              rw [← HOL.out] at HON
              go_wp2_with (at_builtin; refine wpList_append_own_at _ rfl _ _ 36 rfl w2.heap.size 35 i0 zvw 4 32 Tryd.underlying36 hi hz0 hz1 hz2 rfl (by decide) _ _ _ rfl HON.out ⟨wc.heap.size, 0, none⟩ 1 1 news rfl HN4.out HCL.out HN1.out ?c3 ?c4 ?c5 ?_)
              case c3 => unfold maxLen; omega
              case c4 => omega
              case c5 => exact HBN.out.size
              intro v' w5 hown' hgrow _ hob
              have hbg := HBN.out.grown hgrow HBN.out.size (fun b hb => (HON.out.lt b hb).1)
              have hfl : (O.map viewCells).flatten ++ news = ((O ++ [y]).map viewCells).flatten := by simp [HNW.out]
              have hle : o + 1 = (O ++ [y]).length := by rw [List.length_append, ← HOL.out]; rfl
              rw [hfl, hle] at hown'
              have HO5 := Lib.hid hown'
              have HB5 := Lib.hid hbg
              clear hown' hgrow hob hbg hfl hle y0 y1 y2 y3
              go_wp2_with fail
              go_roundw
              case rel =>
                refine ⟨j + 1, by omega, by go_num, ?_, HB5⟩
                rw [HST.out]
                exact HO5
              case measure => simp [intOf] <;> omega
          · rw [if_neg (fun h => hc h.1)] at hst
            have hd : decide (la.number < y.number) = false := decide_eq_false hc
            have HST := Lib.hid hst
            clear hst hc
            go_wp2_with fail
            go_roundw
            case rel =>
              refine ⟨j + 1, by omega, by go_num, ?_, HBY⟩
              rw [HST.out]
              exact HOY
            case measure => simp [intOf] <;> omega
        · obtain rfl : j = q := by omega
          have e : P ++ r.pend.take j = vpends (L.take (k + 1)) := by rw [List.take_of_length_le (by rw [HQ.out]; exact Nat.le_refl _), HTK.out]
          rw [e] at HO
          clear e hjl hj
          go_wp2_with fail
          go_roundw
          case rel => exact ⟨k + 1, by omega, by go_num, HO, HB⟩
          case measure => simp [intOf] <;> omega
    · obtain rfl : k = n := by omega
      have e : pout la.number (vpends (L.take k)) = vpend L := by
        rw [List.take_of_length_le (by rw [HN.out]; exact Nat.le_refl _), HLA.out]; rfl
      rw [e] at HO
      obtain ⟨A5, l5, c5, rfl⟩ := own_sl HO.out
      have hbase : w.heap.size ≤ w2.heap.size := HB2.out.size
      have hfin : wr.ownsRow w.heap.size 35 4 (.slice A5 l5 c5) (vpend L).length ((vpend L).map viewCells).flatten := own_lower HO.out hbase
      have HFI := Lib.hid hfin
      clear hfin e hlt hk hbase
      go_wp2_with fail
      go_ret
      exact ⟨_, rfl, HBW.out, HFI.out⟩
end Go.Proofs.YtalcoodidcehnaaDoor
