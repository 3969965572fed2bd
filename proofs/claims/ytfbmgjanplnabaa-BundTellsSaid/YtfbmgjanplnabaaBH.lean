import Derived.Test.YtfbmgjanplnabaaBG
import Derived.LoopN
/- (*reader).locale: the walk. -/
namespace Go.Proofs.Ytfbmgjanplnabaa
open Go.RowKit Go.Proofs.YtfbmgjanplnabaaW.PrintWords Go.Proofs.YtfbmgjanplnabaaW.PrintLast Go.Proofs.YtfbmgjanplnabaaW.PrintMore
set_option linter.unusedVariables false
set_option linter.unusedSimpArgs false

def locPost (xs : List Int) (g : Nat) (W : World) (e : Ending) (W' : World) : Prop :=
  W.grownBy W' (some g) ∧ (match locP xs with
    | some l => ∃ L, e = .returned (.agg L.toArray) ∧ OwnL W' W.heap.size l L
    | none => e = wrong)

set_option maxHeartbeats 1600000 in
set_option maxRecDepth 100000 in
theorem locale_pool (w0 : World) (xs : List Int) (A : Option Addr) (c g : Nat) (vp : Value) (W : World) (hI : RInv w0 xs A c g g vp [] W 0) (hT : takePool xs 56 = none) :
    Calls Try.prog 51 #[.pointer (some ⟨g, 0, none⟩)] W (fun e W' => e = wrong ∧ W.grownBy W' (some g)) := by
  have hc0 := blk_cell hI.rd 0
  have hlt := blk_lt hI.rd
  simp only [List.getElem?_toArray, List.getElem?_cons_zero] at hc0
  have HT : Aside0 (∀ Wx, Below W.heap.size W Wx → Calls Try.prog 67 #[.slice A xs.length c, .int .i64 56] Wx fun e w' => e = .returned (.tuple #[.slice none 0 0, .int .i64 0, .int .i64 2]) ∧ Below Wx.heap.size Wx w') := ⟨fun Wx hb => by
    have h1 := takePool_calls xs A c 56 Wx (Kd.C_below hI.xs_ (hI.belowB hb).below) hI.cap
    refine h1.mono ?_
    rintro e w' ⟨h2, h3⟩
    rw [hT] at h3
    exact ⟨h3, h2⟩⟩
  unfold wrong
  clear hI hT
  go_enter Try.func51, Try.ntmps51
  go_wp2_with fail
  refine (HT.out _ ((Below.refl _ _).alloc (Nat.le_refl _) _)).mono ?_
  rintro e w3 ⟨rfl, hb⟩
  have HB := Aside0.mk (below_then ((Below.refl W.heap.size W).alloc (Nat.le_refl _) (.cells (dcells ⟨#[]⟩ [0, 0, 0, 0, 0, 0, 0] [⟨#[]⟩, ⟨#[]⟩, ⟨#[]⟩, ⟨#[]⟩] (.slice none 0 0) (.slice none 0 0) (.slice none 0 0)).toArray 29)) (by simp) hb)
  clear hb HT
  go_wp2
  exact ⟨rfl, rfl, grown_of_below' HB.out _⟩

set_option maxHeartbeats 16000000 in
set_option maxRecDepth 100000 in
theorem locale_main (w0 : World) (xs : List Int) (A : Option Addr) (c g : Nat) (vp : Value) (W : World) (hI : RInv w0 xs A c g g vp [] W 0) (pool : List ByteArray) (p0 : Nat) (hT : takePool xs 56 = some (pool, p0)) :
    Calls Try.prog 51 #[.pointer (some ⟨g, 0, none⟩)] W (locPost xs g W) := by
  have hc0 := blk_cell hI.rd 0
  have hlt := blk_lt hI.rd
  simp only [List.getElem?_toArray, List.getElem?_cons_zero] at hc0
  have HI := Aside0.mk hI
  have HT : Aside0 (∀ Wx, Below W.heap.size W Wx → Calls Try.prog 67 #[.slice A xs.length c, .int .i64 56] Wx fun e w' => ∃ v, e = .returned (.tuple #[v, .int .i64 p0, .int .i64 0]) ∧ OwnS w' Wx.heap.size v pool ∧ Below Wx.heap.size Wx w') := ⟨fun Wx hb => by
    have h1 := takePool_calls xs A c 56 Wx (Kd.C_below hI.xs_ (hI.belowB hb).below) hI.cap
    refine h1.mono ?_
    rintro e w' ⟨h2, h3⟩
    rw [hT] at h3
    obtain ⟨v, h3, h4⟩ := h3
    exact ⟨v, h3, h4, h2⟩⟩
  have HM : Aside0 (locP xs = (txtP xs pool p0).bind fun t => locS xs pool t.1 t.2) := ⟨by unfold locP; rw [hT]; rfl⟩
  clear hI hT
  go_enter Try.func51, Try.ntmps51
  go_wp2_with fail
  refine (HT.out _ ((Below.refl _ _).alloc (Nat.le_refl _) _)).mono ?_
  rintro e w3 ⟨v, rfl, ho, hb⟩
  obtain ⟨Ap, np, cp, hv⟩ := R_slice' ho
  subst hv
  have HB := Aside0.mk hb
  have HO := Aside0.mk ho
  have HL0 : Aside0 (LInv W w0 xs A c g w3.heap.size (.slice Ap np cp) pool W.heap.size w3.heap.size _ p0 _ _ _ _ _ _ [] [] []) := ⟨LInv.start (p := p0) HI.out hb ho⟩
  have hrd : w3.heap[g]? = _ := blk_below (blk_alloc HI.out.rd _) hb (by simp; omega)
  have hd1 := blk_cell hrd 1
  have hd2 := blk_cell hrd 2
  have hf1 := blk_free hrd 1
  have hf2 := blk_free hrd 2
  have hl3 := blk_lt hrd
  simp only [List.getElem?_toArray, List.getElem?_cons_zero, List.getElem?_cons_succ] at hd1 hd2
  clear ho hb HT HI hrd hc0
  go_wp2_with fail
  have HGLT : Aside0 (W.heap.size < w3.heap.size) := ⟨by have := HB.out.size; simp at this; omega⟩
  unfold dcells at HL0
  simp only [List.map_cons, List.map_nil, List.cons_append, List.nil_append] at HL0
  obtain ⟨g2, hg2⟩ : ∃ g2, W.heap.size = g2 := ⟨_, rfl⟩
  obtain ⟨gl, hgl⟩ : ∃ gl, w3.heap.size = gl := ⟨_, rfl⟩
  rw [hg2, hgl] at HL0 HGLT
  rw [hg2, hgl]
  generalize hW5 : World.alloc _ _ = w5 at HL0 ⊢
  clear hW5 hg2 hgl hd1 hd2 hf1 hf2 hl3 HB HO hlt
  cases ht : txtP xs pool p0 with
  | none =>
    have HNO : Aside0 (locP xs = none) := ⟨by rw [HM.out, ht]; rfl⟩
    refine (txt_none w0 xs A c g gl _ pool p0 _ ht HL0.out.ri).mono ?_
    rintro e w6 ⟨he, hg6⟩
    unfold wrong at he
    subst he
    have HG6 := Aside0.mk (HL0.out.gr.trans hg6)
    clear HL0 HM ht hg6
    go_wp2
    refine ⟨rfl, HG6.out, ?_⟩
    rw [HNO.out]
    exact rfl
  | some r =>
    obtain ⟨tag, p1⟩ := r
    have HM1 : Aside0 (locP xs = locS xs pool tag p1) := ⟨by rw [HM.out, ht]; rfl⟩
    refine (txt_some w0 xs A c g gl _ pool p0 _ ht HL0.out.ri).mono ?_
    rintro e w6 ⟨rfl, hg6, hr6⟩
    have HL1 := Aside0.mk ((HL0.out.call hg6 hr6).setl 0 (.string tag) rfl)
    have hc1 := (HL0.out.call hg6 hr6).cell 0
    have hf1 := (HL0.out.call hg6 hr6).free 0
    unfold dcells at hc1
    rw [List.getElem?_cons_zero] at hc1
    clear HL0 HM ht hg6 hr6
    go_wp2_with fail
    have hsz6 : (w6.setCell ⟨gl, 0, none⟩ (.string tag)).heap.size = w6.heap.size := by simp [World.setCell]
    have hgp := blk_new (w6.setCell ⟨gl, 0, none⟩ (.string tag)) (.cells (ptrs gl).toArray 117)
    have HLA := Aside0.mk (HL1.out.belowB ((Below.refl _ _).alloc (Nat.le_refl _) (.cells (ptrs gl).toArray 117)))
    rw [hsz6] at hgp
    have hglt : gl < w6.heap.size := by have := blk_lt HL1.out.lb; rw [hsz6] at this; exact this
    unfold ptrs at hgp HLA
    obtain ⟨gp, hgp2⟩ : ∃ gp, w6.heap.size = gp := ⟨_, rfl⟩
    rw [hgp2] at hgp hglt ⊢
    generalize hW7 : World.alloc (w6.setCell ⟨gl, 0, none⟩ (.string tag)) _ = w7 at HLA hgp ⊢
    have HGP : Aside0 (w7.heap[gp]? = some (.cells (ptrs gl).toArray 117 (0, 0))) := ⟨hgp⟩
    have HGLP := Aside0.mk hglt
    clear hW7 hgp2 hgp hglt hsz6 HL1 hc1 hf1
    go_loopw [8, 55] (fun _ i Wx => ∃ (k : Nat) (acc : List Int) (p : Nat), k ≤ 7 ∧ i = .int .i64 k ∧ acc.length = k ∧ Aside0 (locP xs = (rep (sgnP xs) (7 - k) p).bind fun s => locT xs pool tag (acc ++ s.1) s.2) ∧
      Aside0 (LInv W w0 xs A c g gl (.slice Ap np cp) pool g2 gl Wx p tag (acc ++ List.replicate (7 - k) 0) [⟨#[]⟩, ⟨#[]⟩, ⟨#[]⟩, ⟨#[]⟩] (.slice none 0 0) (.slice none 0 0) (.slice none 0 0) [] [] []) ∧ Aside0 (Wx.heap[gp]? = some (.cells (ptrs gl).toArray 117 (0, 0)))) (fun _ i _ => 7 - (intOf i).toNat)
    case atStart => exact ⟨0, [], p1, by omega, rfl, rfl, ⟨HM1.out⟩, HLA, HGP⟩
    case round =>
      clear HLA HGP HM1
      obtain ⟨k, acc, p, hk, rfl, hacc, HM, HL, HGP⟩ := hrel
      by_cases hlt : k < 7
      · have hpk := blk_cell HGP.out k
        rw [List.getElem?_toArray, ptrs_get gl k hlt] at hpk
        have hrep : 7 - k = (7 - (k + 1)) + 1 := by omega
        rw [hrep] at HM HL
        have h7 : acc.length = 7 - ((7 - (k + 1)) + 1) := by omega
        cases hs : sgnP xs p with
        | none =>
          have HNO : Aside0 (locP xs = none) := ⟨by rw [HM.out, rep_none _ hs]⟩
          have HC := Aside0.mk (sgn_none w0 xs A c g gl _ pool p _ hs HL.out.ri)
          unfold wrong at HC
          have HG5 := Aside0.mk HL.out.gr
          clear HM hs HL hrep h7
          go_wp2_with fail
          refine HC.out.mono ?_
          rintro e w8 ⟨rfl, hg8⟩
          have HG8 := Aside0.mk (HG5.out.trans hg8)
          clear hg8 HC HG5 hpk
          go_wp2
          refine ⟨rfl, HG8.out, ?_⟩
          rw [HNO.out]
          exact rfl
        | some r =>
          obtain ⟨v, q⟩ := r
          have HM2 := Aside0.mk (HM.out.trans (rep_some (fun s p => locT xs pool tag s p) acc hs))
          have HC := Aside0.mk (sgn_some w0 xs A c g gl _ pool p _ hs HL.out.ri)
          clear HM hs
          go_wp2_with fail
          refine HC.out.mono ?_
          rintro e w8 ⟨rfl, hg8, hr8⟩
          have hL8 := HL.out.call hg8 hr8
          obtain ⟨y, hcl⟩ : ∃ y, w8.cell? ⟨gl, 1 + k, none⟩ = some y := by
            refine ⟨_, (hL8.cell (1 + k)).trans (dcells_get1 _ _ _ _ _ _ _ ?_)⟩
            simp
            omega
          have hfr := hL8.free (1 + k)
          have hbl := blk_lt hL8.lb
          have HL9 := Aside0.mk (hL8.setl (1 + k) (.int .i32 v) (by rw [← hacc]; exact dcells_sign tag acc _ _ _ _ _ v (by rw [hacc]; exact h7 ▸ hacc ▸ rfl)))
          have HGP9 := Aside0.mk (blk_other (blk_grown HGP.out hg8 (fun e => by injection e with e; have := HL.out.o1; have := HL.out.o2; have := HGLP.out; omega)) (show gp ≠ gl by have := HGLP.out; omega) (.int .i32 v) (p := ⟨gl, 1 + k, none⟩))
          rw [hacc] at HL9
          clear hg8 hr8 hL8 HC HL HGP h7 hpk
          go_wp2
          go_roundw
          case rel => exact ⟨k + 1, acc ++ [v], q, by omega, by go_num, by rw [List.length_append, hacc]; rfl, HM2, HL9, HGP9⟩
          case measure => simp [intOf]; omega
      · obtain rfl : k = 7 := by omega
        simp only [Nat.sub_self, List.replicate_zero, List.append_nil] at HL
        have HM2 : Aside0 (locP xs = locT xs pool tag acc p) := ⟨by rw [HM.out]; simp [rep]⟩
        clear HM HGP HGLP
        go_wp2_with fail
        obtain ⟨S, hS⟩ : ∃ S, acc = S := ⟨_, rfl⟩
        rw [hS] at HL HM2 hacc
        have HS7 := Aside0.mk hacc
        clear hS hacc hk hlt
        rw [show ((7 : Nat) : Int) = 7 from rfl]
        go_loopw [9, 64] (fun _ i Wx => ∃ (k : Nat) (ac : List ByteArray) (p : Nat), k ≤ 4 ∧ i = .int .i64 k ∧ ac.length = k ∧ Aside0 (locP xs = (rep (txtP xs pool) (4 - k) p).bind fun s => locA xs pool tag S (ac ++ s.1) s.2) ∧
          Aside0 (LInv W w0 xs A c g gl (.slice Ap np cp) pool g2 gl Wx p tag S (ac ++ List.replicate (4 - k) ⟨#[]⟩) (.slice none 0 0) (.slice none 0 0) (.slice none 0 0) [] [] [])) (fun _ i _ => 4 - (intOf i).toNat)
        case atStart => exact ⟨0, [], p, by omega, rfl, rfl, ⟨HM2.out⟩, HL⟩
        case round =>
          clear HL HM2
          obtain ⟨k, ac, p, hk, rfl, hac, HM, HL⟩ := hrel
          by_cases hlt : k < 4
          · have hrep : 4 - k = (4 - (k + 1)) + 1 := by omega
            rw [hrep] at HM HL
            cases hs : txtP xs pool p with
            | none =>
              have HNO : Aside0 (locP xs = none) := ⟨by rw [HM.out, rep_none _ hs]⟩
              have HC := Aside0.mk (txt_none w0 xs A c g gl _ pool p _ hs HL.out.ri)
              unfold wrong at HC
              have HG5 := Aside0.mk HL.out.gr
              clear HM hs HL hrep
              go_wp2_with fail
              refine HC.out.mono ?_
              rintro e w8 ⟨rfl, hg8⟩
              have HG8 := Aside0.mk (HG5.out.trans hg8)
              clear hg8 HC HG5
              go_wp2
              refine ⟨rfl, HG8.out, ?_⟩
              rw [HNO.out]
              exact rfl
            | some r =>
              obtain ⟨v, q⟩ := r
              have HM2 := Aside0.mk (HM.out.trans (rep_some (fun s p => locA xs pool tag S s p) ac hs))
              have HC := Aside0.mk (txt_some w0 xs A c g gl _ pool p _ hs HL.out.ri)
              clear HM hs
              go_wp2_with fail
              refine HC.out.mono ?_
              rintro e w8 ⟨rfl, hg8, hr8⟩
              have hL8 := HL.out.call hg8 hr8
              obtain ⟨y, hcl⟩ : ∃ y, w8.cell? ⟨gl, 8 + k, none⟩ = some y := by
                refine ⟨_, (hL8.cell (8 + k)).trans (dcells_get2 _ _ _ _ _ _ HS7.out _ ?_)⟩
                simp
                omega
              have hfr := hL8.free (8 + k)
              have hbl := blk_lt hL8.lb
              have HL9 := Aside0.mk (hL8.setl (8 + k) (.string v) (by rw [← hac]; exact dcells_pat tag S ac _ _ _ _ v HS7.out))
              rw [hac] at HL9
              clear hg8 hr8 hL8 HC HL
              go_wp2
              go_roundw
              case rel => exact ⟨k + 1, ac ++ [v], q, by omega, by go_num, by rw [List.length_append, hac]; rfl, HM2, HL9⟩
              case measure => simp [intOf]; omega
          · obtain rfl : k = 4 := by omega
            simp only [Nat.sub_self, List.replicate_zero, List.append_nil] at HL
            have HM2 : Aside0 (locP xs = locA xs pool tag S ac p) := ⟨by rw [HM.out]; simp [rep]⟩
            obtain ⟨P, hP⟩ : ∃ P, ac = P := ⟨_, rfl⟩
            rw [hP] at HL HM2 hac
            have HP4 := Aside0.mk hac
            clear HM hP hac hk hlt
            rw [show ((4 : Nat) : Int) = 4 from rfl]
            cases hn : numP xs 2 p with
            | none =>
              have HNO : Aside0 (locP xs = none) := ⟨by rw [HM2.out]; unfold locA manyP; rw [hn]; rfl⟩
              have HC := Aside0.mk (num_none w0 xs A c g gl _ pool p _ (.inr (.inl rfl)) hn HL.out.ri)
              unfold wrong at HC
              have HG5 := Aside0.mk HL.out.gr
              clear HM2 hn HL
              go_wp2_with fail
              refine HC.out.mono ?_
              rintro e w8 ⟨rfl, hg8⟩
              have HG8 := Aside0.mk (HG5.out.trans hg8)
              clear hg8 HC HG5
              go_wp2
              refine ⟨rfl, HG8.out, ?_⟩
              rw [HNO.out]
              exact rfl
            | some r =>
              obtain ⟨nR, p2⟩ := r
              have HNR := Aside0.mk (num_lt xs p hn)
              have HM3 : Aside0 (locP xs = (rep (rulP xs pool) nR p2).bind fun r => locB xs pool tag S P r.1 r.2) := ⟨by rw [HM2.out]; unfold locA manyP; rw [hn]; rfl⟩
              have HC := Aside0.mk (num_some w0 xs A c g gl _ pool p _ (.inr (.inl rfl)) hn HL.out.ri)
              clear HM2 hn
              go_wp2_with fail
              refine HC.out.mono ?_
              rintro e w8 ⟨rfl, hg8, hr8⟩
              have HL8 := Aside0.mk (HL.out.call hg8 hr8)
              clear hg8 hr8 HC HL
              go_wp2_with fail
              go_loopw [10, 75] (fun _ i Wx => ∃ (k : Nat) (ac : List Rl) (p : Nat) (Av : Option Addr) (mv cv : Nat), k ≤ nR ∧ i = .int .i64 k ∧ ac.length = k ∧ Aside0 (locP xs = (rep (rulP xs pool) (nR - k) p).bind fun s => locB xs pool tag S P (ac ++ s.1) s.2) ∧
                Aside0 (LInv W w0 xs A c g gl (.slice Ap np cp) pool g2 gl Wx p tag S P (.slice Av mv cv) (.slice none 0 0) (.slice none 0 0) ac [] [])) (fun _ i _ => nR - (intOf i).toNat)
              case atStart => exact ⟨0, [], p2, none, 0, 0, by omega, rfl, rfl, ⟨HM3.out⟩, HL8⟩
              case round =>
                clear HL8 HM3
                obtain ⟨k, ac, p, Av, mv, cv, hk, rfl, hac, HM, HL⟩ := hrel
                by_cases hlt : k < nR
                · have hrep : nR - k = (nR - (k + 1)) + 1 := by omega
                  have hnb : (nR : Int) ≤ 4294967295 := by have := HNR.out; omega
                  rw [hrep] at HM
                  cases hn : numP xs 1 p with
                  | none =>
                    have HNO : Aside0 (locP xs = none) := ⟨by rw [HM.out]; exact rep_none _ (by unfold rulP; rw [hn]; rfl)⟩
                    have HC := Aside0.mk (num_none w0 xs A c g gl _ pool p _ (.inl rfl) hn HL.out.ri)
                    unfold wrong at HC
                    have HG5 := Aside0.mk HL.out.gr
                    clear HM hn HL hrep
                    go_wp2_with fail
                    refine HC.out.mono ?_
                    rintro e w8 ⟨rfl, hg8⟩
                    have HG8 := Aside0.mk (HG5.out.trans hg8)
                    clear hg8 HC HG5
                    go_wp2
                    refine ⟨rfl, HG8.out, ?_⟩
                    rw [HNO.out]
                    exact rfl
                  | some r =>
                    obtain ⟨cat, p3⟩ := r
                    have HC := Aside0.mk (num_some w0 xs A c g gl _ pool p _ (.inl rfl) hn HL.out.ri)
                    cases ht : txtP xs pool p3 with
                    | none =>
                      have HNO : Aside0 (locP xs = none) := ⟨by rw [HM.out]; exact rep_none _ (by unfold rulP; rw [hn]; simp [ht])⟩
                      clear HM hn hrep
                      go_wp2_with fail
                      refine HC.out.mono ?_
                      rintro e w9 ⟨rfl, hg9, hr9⟩
                      have HL9 := Aside0.mk (HL.out.call hg9 hr9)
                      clear hg9 hr9 HC HL
                      have HCT : Aside0 (∀ Wx, Below w9.heap.size w9 Wx → Calls Try.prog 68 #[.pointer (some ⟨g, 0, none⟩)] Wx (fun e W' => e = wrong ∧ Wx.grownBy W' (some g))) := ⟨fun Wx hb => txt_none w0 xs A c g gl _ pool p3 _ ht (HL9.out.ri.belowB hb)⟩
                      unfold wrong at HCT
                      have hc12 := (HL9.out.cell 12).trans (dcells_12 tag S P _ _ _ HS7.out HP4.out)
                      clear ht
                      go_wp2_with fail
                      go_region_law (go_simp; go_at_call 68; refine (HCT.out _ ((Below.refl _ _).drew)).mono ?_; rintro e w10 ⟨rfl, hg10⟩; have HG10 := Aside0.mk ((HL9.out.gr.trans (grown_of_below' ((Below.refl w9.heap.size w9).drew) _)).trans hg10); clear hg10; go_simp; refine panic_dummy (P := Try.prog) (md := Region.Mode.gc) (w := w10) ?_)
                      clear HL9 HCT hc12
                      all_goals go_wp2
                      all_goals refine ⟨rfl, HG10.out, ?_⟩
                      all_goals rw [HNO.out]
                      all_goals exact rfl
                    | some r =>
                      obtain ⟨s, q⟩ := r
                      have HM2 := Aside0.mk (HM.out.trans (rep_some (v := ((cat : Int), s)) (q := q) (fun r p => locB xs pool tag S P r p) ac (by unfold rulP; rw [hn]; simp [ht])))
                      clear HM hn hrep
                      go_wp2_with fail
                      refine HC.out.mono ?_
                      rintro e w9 ⟨rfl, hg9, hr9⟩
                      have HL9 := Aside0.mk (HL.out.call hg9 hr9)
                      clear hg9 hr9 HC HL
                      have HCT : Aside0 (∀ Wx, Below w9.heap.size w9 Wx → Calls Try.prog 68 #[.pointer (some ⟨g, 0, none⟩)] Wx (fun e W' => e = .returned (.string s) ∧ Wx.grownBy W' (some g) ∧ RInv w0 xs A c g gl (.slice Ap np cp) pool W' q)) := ⟨fun Wx hb => txt_some w0 xs A c g gl _ pool p3 _ ht (HL9.out.ri.belowB hb)⟩
                      have hc12 := (HL9.out.cell 12).trans (dcells_12 tag S P _ _ _ HS7.out HP4.out)
                      have HBN : Aside0 ((ac.length + 1) * 24 ≤ 140737488355328) := ⟨by have := HNR.out; omega⟩
                      clear ht
                      go_wp2_with fail
                      go_region_law (first
                        | (go_simp; go_at_call 68; refine (HCT.out _ ((Below.refl _ _).drew)).mono ?_; rintro e w10 ⟨rfl, hg10, hr10⟩; have HL10 := Aside0.mk ((HL9.out.belowB ((Below.refl w9.heap.size w9).drew)).call hg10 hr10); have hd12 := (HL10.out.cell 12).trans (dcells_12 tag S P _ _ _ HS7.out HP4.out); have HSZ := Aside0.mk (blk_lt HL10.out.lb); have hsz10 := HSZ.out; clear hg10 hr10; go_simp)
                        | (refine Kd.R_append_step kRl (w0 := w10) (gl + 1) (by rfl) (.tmp 80) (.tmp 85) 25 57 (.agg #[.int .i64 0, .string ⟨#[]⟩]) 24 rfl Try.underlying25 info57 rfl (by decide) (by decide) (.slice Av mv cv) ac ((cat : Int), s) [.int .i64 cat, .string s] (fun _ => True) (fun _ => False) rfl rfl ⟨[.int .i64 cat], [.string s], rfl, rfl, rfl⟩ (fun _ h => h.elim) (fun _ _ => trivial) HL10.out.rr (Below.refl _ _) HSZ.out HBN.out ?_; intro v1 w11 ho hb11 hg11 hat11; have hb12 := blk_grown HL10.out.lb hg11 (fun e => by have := own_ge HL10.out.rr _ e.symm; omega); have he12 := blk_cell hb12 12; rw [List.getElem?_toArray, dcells_12 tag S P _ _ _ HS7.out HP4.out] at he12; have hf12 := blk_free hb12 12; have HL12 := Aside0.mk (HL10.out.stored hg11 (fun k hk => own_ge HL10.out.rr k hk) 12 v1 (dcells_set12 tag S P _ _ _ v1 HS7.out HP4.out) ho (R_two HL10.out.rc rfl HL10.out.rr (by decide) hg11) (R_two HL10.out.rk rfl HL10.out.rr (by decide) hg11)); obtain ⟨A1, m1, c1, hv1⟩ := R_slice' ho; subst hv1; clear ho hb11 hg11 hat11 hb12))
                      clear HL9 HCT hc12
                      all_goals go_wp2
                      all_goals go_roundw
                      all_goals first
                        | exact ⟨k + 1, ac ++ [((cat : Int), s)], q, _, _, _, by omega, by go_num, by rw [List.length_append, hac]; rfl, HM2, HL12⟩
                        | (simp [intOf]; omega)
                · obtain rfl : k = nR := by omega
                  rw [Nat.sub_self] at HM
                  have HM2 : Aside0 (locP xs = locB xs pool tag S P ac p) := ⟨by rw [HM.out]; simp [rep]⟩
                  obtain ⟨R, hR⟩ : ∃ R, ac = R := ⟨_, rfl⟩
                  rw [hR] at HL HM2 hac
                  have HR16 := Aside0.mk hac
                  clear HM hR hac hk hlt
                  obtain ⟨vr, hvr⟩ : ∃ vr, Value.slice Av mv cv = vr := ⟨_, rfl⟩
                  rw [hvr] at HL
                  clear hvr
                  have HM := HM2
                  clear HM2
                  cases hn : numP xs 2 p with
                  | none =>
                    have HNO : Aside0 (locP xs = none) := ⟨by rw [HM.out]; unfold locB manyP; rw [hn]; rfl⟩
                    have HC := Aside0.mk (num_none w0 xs A c g gl _ pool p _ (.inr (.inl rfl)) hn HL.out.ri)
                    unfold wrong at HC
                    have HG5 := Aside0.mk HL.out.gr
                    clear HM HL hn
                    go_wp2_with fail
                    refine HC.out.mono ?_
                    rintro e w8 ⟨rfl, hg8⟩
                    have HG8 := Aside0.mk (HG5.out.trans hg8)
                    clear hg8 HC HG5
                    go_wp2
                    refine ⟨rfl, HG8.out, ?_⟩
                    rw [HNO.out]
                    exact rfl
                  | some r =>
                    obtain ⟨nC, p2⟩ := r
                    have HNR := Aside0.mk (num_lt xs p hn)
                    have HM3 : Aside0 (locP xs = (rep (curP xs pool) nC p2).bind fun r => locC xs pool tag S P R r.1 r.2) := ⟨by rw [HM.out]; unfold locB manyP; rw [hn]; rfl⟩
                    have HC := Aside0.mk (num_some w0 xs A c g gl _ pool p _ (.inr (.inl rfl)) hn HL.out.ri)
                    clear HM hn
                    go_wp2_with fail
                    refine HC.out.mono ?_
                    rintro e w8 ⟨rfl, hg8, hr8⟩
                    have HL8 := Aside0.mk (HL.out.call hg8 hr8)
                    clear hg8 hr8 HC HL
                    go_wp2_with fail
                    go_loopw [11, 12, 91] (fun _ _ i Wx => ∃ (k : Nat) (ac : List Cu) (p : Nat) (Av : Option Addr) (mv cv : Nat), k ≤ nC ∧ i = .int .i64 k ∧ ac.length = k ∧ Aside0 (locP xs = (rep (curP xs pool) (nC - k) p).bind fun s => locC xs pool tag S P R (ac ++ s.1) s.2) ∧
                      Aside0 (LInv W w0 xs A c g gl (.slice Ap np cp) pool g2 gl Wx p tag S P vr (.slice Av mv cv) (.slice none 0 0) R ac [])) (fun _ _ i _ => nC - (intOf i).toNat)
                    case atStart => exact ⟨0, [], p2, none, 0, 0, by omega, rfl, rfl, ⟨HM3.out⟩, HL8⟩
                    case round =>
                      clear HL8 HM3
                      obtain ⟨k, ac, p, Av, mv, cv, hk, rfl, hac, HM, HL⟩ := hrel
                      by_cases hlt : k < nC
                      · have hrep : nC - k = (nC - (k + 1)) + 1 := by omega
                        have hnb : (nC : Int) ≤ 4294967295 := by have := HNR.out; omega
                        rw [hrep] at HM
                        cases h0 : txtP xs pool p with
                        | none =>
                          have HNO : Aside0 (locP xs = none) := ⟨by rw [HM.out]; exact rep_none _ (by unfold curP;  rw [h0]; rfl)⟩
                          have HC := Aside0.mk (txt_none w0 xs A c g gl _ pool p _ h0 HL.out.ri)
                          unfold wrong at HC
                          have HG5 := Aside0.mk HL.out.gr
                          clear HM HL h0 hrep
                          go_wp2_with fail
                          refine HC.out.mono ?_
                          rintro e w8 ⟨rfl, hg8⟩
                          have HG8 := Aside0.mk (HG5.out.trans hg8)
                          clear hg8 HC HG5
                          go_wp2
                          refine ⟨rfl, HG8.out, ?_⟩
                          rw [HNO.out]
                          exact rfl
                        | some r =>
                          obtain ⟨code, q0⟩ := r
                          have HC := Aside0.mk (txt_some w0 xs A c g gl _ pool p _ h0 HL.out.ri)
                          go_wp2_with fail
                          refine HC.out.mono ?_
                          rintro e w9 ⟨rfl, hg9, hr9⟩
                          have hLx := HL.out.call hg9 hr9
                          clear hg9 hr9 HC HL
                          have HL := Aside0.mk hLx
                          clear hLx
                          cases h1 : txtP xs pool q0 with
                          | none =>
                            have HNO : Aside0 (locP xs = none) := ⟨by rw [HM.out]; exact rep_none _ (by unfold curP; rw [h0]; simp only [Option.bind_some]; rw [h1]; rfl)⟩
                            have HC := Aside0.mk (txt_none w0 xs A c g gl _ pool q0 _ h1 HL.out.ri)
                            unfold wrong at HC
                            have HG5 := Aside0.mk HL.out.gr
                            clear HM HL h0 h1 hrep
                            go_wp2_with fail
                            refine HC.out.mono ?_
                            rintro e w8 ⟨rfl, hg8⟩
                            have HG8 := Aside0.mk (HG5.out.trans hg8)
                            clear hg8 HC HG5
                            go_wp2
                            refine ⟨rfl, HG8.out, ?_⟩
                            rw [HNO.out]
                            exact rfl
                          | some r =>
                            obtain ⟨sgn, q1⟩ := r
                            have HC := Aside0.mk (txt_some w0 xs A c g gl _ pool q0 _ h1 HL.out.ri)
                            go_wp2_with fail
                            refine HC.out.mono ?_
                            rintro e w9 ⟨rfl, hg9, hr9⟩
                            have hLx := HL.out.call hg9 hr9
                            clear hg9 hr9 HC HL
                            have HL := Aside0.mk hLx
                            clear hLx
                            have hc12 := (HL.out.cell 13).trans (dcells_13 tag S P _ _ _ HS7.out HP4.out)
                            cases hl : numP xs 1 q1 with
                            | none =>
                              have HNO : Aside0 (locP xs = none) := ⟨by rw [HM.out]; exact rep_none _ (by unfold curP; rw [h0]; simp only [Option.bind_some]; rw [h1]; simp only [Option.bind_some]; rw [hl]; rfl)⟩
                              have HCT : Aside0 (∀ Wx, Below w9.heap.size w9 Wx → Calls Try.prog 70 #[.pointer (some ⟨g, 0, none⟩), .int .i64 1] Wx (fun e W' => e = wrong ∧ Wx.grownBy W' (some g))) := ⟨fun Wx hb => num_none w0 xs A c g gl _ pool q1 _ (.inl rfl) hl (HL.out.ri.belowB hb)⟩
                              unfold wrong at HCT
                              clear hl HM h0 h1 hrep
                              go_wp2_with fail
                              go_region_law (go_simp; go_at_call 70; refine (HCT.out _ ((Below.refl _ _).drew)).mono ?_; rintro e w10 ⟨rfl, hg10⟩; have HG10 := Aside0.mk ((HL.out.gr.trans (grown_of_below' ((Below.refl w9.heap.size w9).drew) _)).trans hg10); clear hg10; go_simp; refine panic_dummy (P := Try.prog) (md := Region.Mode.gc) (w := w10) ?_)
                              clear HL HCT hc12
                              all_goals go_wp2
                              all_goals refine ⟨rfl, HG10.out, ?_⟩
                              all_goals rw [HNO.out]
                              all_goals exact rfl
                            | some r =>
                              obtain ⟨dg, q⟩ := r
                              have HM2 := Aside0.mk (HM.out.trans (rep_some (v := (code, (sgn, (dg : Int)))) (q := q) (fun r p => locC xs pool tag S P R r p) ac (by unfold curP; rw [h0]; simp only [Option.bind_some]; rw [h1]; simp only [Option.bind_some]; rw [hl]; rfl)))
                              have HCT : Aside0 (∀ Wx, Below w9.heap.size w9 Wx → Calls Try.prog 70 #[.pointer (some ⟨g, 0, none⟩), .int .i64 1] Wx (fun e W' => e = .returned (.int .i64 (dg : Nat)) ∧ Wx.grownBy W' (some g) ∧ RInv w0 xs A c g gl (.slice Ap np cp) pool W' q)) := ⟨fun Wx hb => num_some w0 xs A c g gl _ pool q1 _ (.inl rfl) hl (HL.out.ri.belowB hb)⟩
                              have HBN : Aside0 ((ac.length + 1) * 40 ≤ 140737488355328) := ⟨by have := HNR.out; omega⟩
                              clear hl HM h0 h1 hrep
                              go_wp2_with fail
                              go_region_law (first
                                | (go_simp; go_at_call 70; refine (HCT.out _ ((Below.refl _ _).drew)).mono ?_; rintro e w10 ⟨rfl, hg10, hr10⟩; have HL10 := Aside0.mk ((HL.out.belowB ((Below.refl w9.heap.size w9).drew)).call hg10 hr10); have hd12 := (HL10.out.cell 13).trans (dcells_13 tag S P _ _ _ HS7.out HP4.out); have HSZ := Aside0.mk (blk_lt HL10.out.lb); have hsz10 := HSZ.out; clear hg10 hr10; go_simp)
                                | (refine Kd.R_append_step kCu (w0 := w10) (gl + 1) (by rfl) (.tmp 98) (.tmp 104) 26 59 (.agg #[.string ⟨#[]⟩, .string ⟨#[]⟩, .int .i64 0]) 40 rfl Try.underlying26 info59 rfl (by decide) (by decide) (.slice Av mv cv) ac (code, (sgn, (dg : Int))) [.string code, .string sgn, .int .i64 dg] (fun _ => True) (fun _ => False) rfl rfl ⟨[.string code], [.string sgn, .int .i64 dg], rfl, rfl, ⟨[.string sgn], [.int .i64 dg], rfl, rfl, rfl⟩⟩ (fun _ h => h.elim) (fun _ _ => trivial) HL10.out.rc (Below.refl _ _) HSZ.out HBN.out ?_; intro v1 w11 ho hb11 hg11 hat11; have hb12 := blk_grown HL10.out.lb hg11 (fun e => by have := own_ge HL10.out.rc _ e.symm; omega); have he12 := blk_cell hb12 13; rw [List.getElem?_toArray, dcells_13 tag S P _ _ _ HS7.out HP4.out] at he12; have hf12 := blk_free hb12 13; have HL12 := Aside0.mk (HL10.out.stored hg11 (fun k hk => own_ge HL10.out.rc k hk) 13 v1 (dcells_set13 tag S P _ _ _ v1 HS7.out HP4.out) (R_two HL10.out.rr rfl HL10.out.rc (by decide) hg11) ho (R_two HL10.out.rk rfl HL10.out.rc (by decide) hg11)); obtain ⟨A1, m1, c1, hv1⟩ := R_slice' ho; subst hv1; clear ho hb11 hg11 hat11 hb12))
                              clear HL HCT hc12
                              all_goals go_wp2
                              all_goals go_roundw
                              all_goals first
                                | exact ⟨k + 1, ac ++ [(code, (sgn, (dg : Int)))], q, _, _, _, by omega, by go_num, by rw [List.length_append, hac]; rfl, HM2, HL12⟩
                                | (simp [intOf]; omega)
                      · obtain rfl : k = nC := by omega
                        rw [Nat.sub_self] at HM
                        have HM2 : Aside0 (locP xs = locC xs pool tag S P R ac p) := ⟨by rw [HM.out]; simp [rep]⟩
                        obtain ⟨C, hC⟩ : ∃ C, ac = C := ⟨_, rfl⟩
                        rw [hC] at HL HM2 hac
                        obtain ⟨vc, hvc⟩ : ∃ vc, Value.slice Av mv cv = vc := ⟨_, rfl⟩
                        rw [hvc] at HL
                        clear HM hC hac hk hlt hvc
                        have HM := HM2
                        clear HM2
                        cases hn : numP xs 2 p with
                        | none =>
                          have HNO : Aside0 (locP xs = none) := ⟨by rw [HM.out]; unfold locC manyP; rw [hn]; rfl⟩
                          have HC := Aside0.mk (num_none w0 xs A c g gl _ pool p _ (.inr (.inl rfl)) hn HL.out.ri)
                          unfold wrong at HC
                          have HG5 := Aside0.mk HL.out.gr
                          clear HM HL hn
                          go_wp2_with fail
                          refine HC.out.mono ?_
                          rintro e w8 ⟨rfl, hg8⟩
                          have HG8 := Aside0.mk (HG5.out.trans hg8)
                          clear hg8 HC HG5
                          go_wp2
                          refine ⟨rfl, HG8.out, ?_⟩
                          rw [HNO.out]
                          exact rfl
                        | some r =>
                          obtain ⟨nK, p2⟩ := r
                          have HNR := Aside0.mk (num_lt xs p hn)
                          have HM3 : Aside0 (locP xs = (rep (cmpP xs pool) nK p2).bind fun r => locD xs pool tag S P R C r.1 r.2) := ⟨by rw [HM.out]; unfold locC manyP; rw [hn]; rfl⟩
                          have HC := Aside0.mk (num_some w0 xs A c g gl _ pool p _ (.inr (.inl rfl)) hn HL.out.ri)
                          clear HM hn
                          go_wp2_with fail
                          refine HC.out.mono ?_
                          rintro e w8 ⟨rfl, hg8, hr8⟩
                          have HL8 := Aside0.mk (HL.out.call hg8 hr8)
                          clear hg8 hr8 HC HL
                          go_wp2_with fail
                          go_loopw [13, 14, 110] (fun _ _ i Wx => ∃ (k : Nat) (ac : List Cm) (p : Nat) (Av : Option Addr) (mv cv : Nat), k ≤ nK ∧ i = .int .i64 k ∧ ac.length = k ∧ Aside0 (locP xs = (rep (cmpP xs pool) (nK - k) p).bind fun s => locD xs pool tag S P R C (ac ++ s.1) s.2) ∧
                            Aside0 (LInv W w0 xs A c g gl (.slice Ap np cp) pool g2 gl Wx p tag S P vr vc (.slice Av mv cv) R C ac)) (fun _ _ i _ => nK - (intOf i).toNat)
                          case atStart => exact ⟨0, [], p2, none, 0, 0, by omega, rfl, rfl, ⟨HM3.out⟩, HL8⟩
                          case round =>
                            clear HL8 HM3
                            obtain ⟨k, ac, p, Av, mv, cv, hk, rfl, hac, HM, HL⟩ := hrel
                            by_cases hlt : k < nK
                            · have hrep : nK - k = (nK - (k + 1)) + 1 := by omega
                              have hnb : (nK : Int) ≤ 4294967295 := by have := HNR.out; omega
                              rw [hrep] at HM
                              cases h0 : numP xs 1 p with
                              | none =>
                                have HNO : Aside0 (locP xs = none) := ⟨by rw [HM.out]; exact rep_none _ (by unfold cmpP;  rw [h0]; rfl)⟩
                                have HC := Aside0.mk (num_none w0 xs A c g gl _ pool p _ (.inl rfl) h0 HL.out.ri)
                                unfold wrong at HC
                                have HG5 := Aside0.mk HL.out.gr
                                clear HM HL h0 hrep
                                go_wp2_with fail
                                refine HC.out.mono ?_
                                rintro e w8 ⟨rfl, hg8⟩
                                have HG8 := Aside0.mk (HG5.out.trans hg8)
                                clear hg8 HC HG5
                                go_wp2
                                refine ⟨rfl, HG8.out, ?_⟩
                                rw [HNO.out]
                                exact rfl
                              | some r =>
                                obtain ⟨mag, q0⟩ := r
                                have HC := Aside0.mk (num_some w0 xs A c g gl _ pool p _ (.inl rfl) h0 HL.out.ri)
                                go_wp2_with fail
                                refine HC.out.mono ?_
                                rintro e w9 ⟨rfl, hg9, hr9⟩
                                have hLx := HL.out.call hg9 hr9
                                clear hg9 hr9 HC HL
                                have HL := Aside0.mk hLx
                                clear hLx
                                cases h1 : numP xs 1 q0 with
                                | none =>
                                  have HNO : Aside0 (locP xs = none) := ⟨by rw [HM.out]; exact rep_none _ (by unfold cmpP; rw [h0]; simp only [Option.bind_some]; rw [h1]; rfl)⟩
                                  have HC := Aside0.mk (num_none w0 xs A c g gl _ pool q0 _ (.inl rfl) h1 HL.out.ri)
                                  unfold wrong at HC
                                  have HG5 := Aside0.mk HL.out.gr
                                  clear HM HL h0 h1 hrep
                                  go_wp2_with fail
                                  refine HC.out.mono ?_
                                  rintro e w8 ⟨rfl, hg8⟩
                                  have HG8 := Aside0.mk (HG5.out.trans hg8)
                                  clear hg8 HC HG5
                                  go_wp2
                                  refine ⟨rfl, HG8.out, ?_⟩
                                  rw [HNO.out]
                                  exact rfl
                                | some r =>
                                  obtain ⟨cat, q1⟩ := r
                                  have HC := Aside0.mk (num_some w0 xs A c g gl _ pool q0 _ (.inl rfl) h1 HL.out.ri)
                                  go_wp2_with fail
                                  refine HC.out.mono ?_
                                  rintro e w9 ⟨rfl, hg9, hr9⟩
                                  have hLx := HL.out.call hg9 hr9
                                  clear hg9 hr9 HC HL
                                  have HL := Aside0.mk hLx
                                  clear hLx
                                  have hc12 := (HL.out.cell 14).trans (dcells_14 tag S P _ _ _ HS7.out HP4.out)
                                  cases hl : txtP xs pool q1 with
                                  | none =>
                                    have HNO : Aside0 (locP xs = none) := ⟨by rw [HM.out]; exact rep_none _ (by unfold cmpP; rw [h0]; simp only [Option.bind_some]; rw [h1]; simp only [Option.bind_some]; rw [hl]; rfl)⟩
                                    have HCT : Aside0 (∀ Wx, Below w9.heap.size w9 Wx → Calls Try.prog 68 #[.pointer (some ⟨g, 0, none⟩)] Wx (fun e W' => e = wrong ∧ Wx.grownBy W' (some g))) := ⟨fun Wx hb => txt_none w0 xs A c g gl _ pool q1 _ hl (HL.out.ri.belowB hb)⟩
                                    unfold wrong at HCT
                                    clear hl HM h0 h1 hrep
                                    go_wp2_with fail
                                    go_region_law (go_simp; go_at_call 68; refine (HCT.out _ ((Below.refl _ _).drew)).mono ?_; rintro e w10 ⟨rfl, hg10⟩; have HG10 := Aside0.mk ((HL.out.gr.trans (grown_of_below' ((Below.refl w9.heap.size w9).drew) _)).trans hg10); clear hg10; go_simp; refine panic_dummy (P := Try.prog) (md := Region.Mode.gc) (w := w10) ?_)
                                    clear HL HCT hc12
                                    all_goals go_wp2
                                    all_goals refine ⟨rfl, HG10.out, ?_⟩
                                    all_goals rw [HNO.out]
                                    all_goals exact rfl
                                  | some r =>
                                    obtain ⟨pt, q⟩ := r
                                    have HM2 := Aside0.mk (HM.out.trans (rep_some (v := ((mag : Int), ((cat : Int), pt))) (q := q) (fun r p => locD xs pool tag S P R C r p) ac (by unfold cmpP; rw [h0]; simp only [Option.bind_some]; rw [h1]; simp only [Option.bind_some]; rw [hl]; rfl)))
                                    have HCT : Aside0 (∀ Wx, Below w9.heap.size w9 Wx → Calls Try.prog 68 #[.pointer (some ⟨g, 0, none⟩)] Wx (fun e W' => e = .returned (.string pt) ∧ Wx.grownBy W' (some g) ∧ RInv w0 xs A c g gl (.slice Ap np cp) pool W' q)) := ⟨fun Wx hb => txt_some w0 xs A c g gl _ pool q1 _ hl (HL.out.ri.belowB hb)⟩
                                    have HBN : Aside0 ((ac.length + 1) * 32 ≤ 140737488355328) := ⟨by have := HNR.out; omega⟩
                                    clear hl HM h0 h1 hrep
                                    go_wp2_with fail
                                    go_region_law (first
                                      | (go_simp; go_at_call 68; refine (HCT.out _ ((Below.refl _ _).drew)).mono ?_; rintro e w10 ⟨rfl, hg10, hr10⟩; have HL10 := Aside0.mk ((HL.out.belowB ((Below.refl w9.heap.size w9).drew)).call hg10 hr10); have hd12 := (HL10.out.cell 14).trans (dcells_14 tag S P _ _ _ HS7.out HP4.out); have HSZ := Aside0.mk (blk_lt HL10.out.lb); have hsz10 := HSZ.out; clear hg10 hr10; go_simp)
                                      | (refine Kd.R_append_step kCm (w0 := w10) (gl + 1) (by rfl) (.tmp 117) (.tmp 123) 27 61 (.agg #[.int .i64 0, .int .i64 0, .string ⟨#[]⟩]) 32 rfl Try.underlying27 info61 rfl (by decide) (by decide) (.slice Av mv cv) ac ((mag : Int), ((cat : Int), pt)) [.int .i64 mag, .int .i64 cat, .string pt] (fun _ => True) (fun _ => False) rfl rfl ⟨[.int .i64 mag], [.int .i64 cat, .string pt], rfl, rfl, ⟨[.int .i64 cat], [.string pt], rfl, rfl, rfl⟩⟩ (fun _ h => h.elim) (fun _ _ => trivial) HL10.out.rk (Below.refl _ _) HSZ.out HBN.out ?_; intro v1 w11 ho hb11 hg11 hat11; have hb12 := blk_grown HL10.out.lb hg11 (fun e => by have := own_ge HL10.out.rk _ e.symm; omega); have he12 := blk_cell hb12 14; rw [List.getElem?_toArray, dcells_14 tag S P _ _ _ HS7.out HP4.out] at he12; have hf12 := blk_free hb12 14; have HL12 := Aside0.mk (HL10.out.stored hg11 (fun k hk => own_ge HL10.out.rk k hk) 14 v1 (dcells_set14 tag S P _ _ _ v1 HS7.out HP4.out) (R_two HL10.out.rr rfl HL10.out.rk (by decide) hg11) (R_two HL10.out.rc rfl HL10.out.rk (by decide) hg11) ho); obtain ⟨A1, m1, c1, hv1⟩ := R_slice' ho; subst hv1; clear ho hb11 hg11 hat11 hb12))
                                    clear HL HCT hc12
                                    all_goals go_wp2
                                    all_goals go_roundw
                                    all_goals first
                                      | exact ⟨k + 1, ac ++ [((mag : Int), ((cat : Int), pt))], q, _, _, _, by omega, by go_num, by rw [List.length_append, hac]; rfl, HM2, HL12⟩
                                      | (simp [intOf]; omega)
                            · obtain rfl : k = nK := by omega
                              rw [Nat.sub_self] at HM
                              have HM2 : Aside0 (locP xs = some (mkLoc tag S P R C ac)) := ⟨by rw [HM.out]; simp [rep, locD]⟩
                              obtain ⟨M, hM⟩ : ∃ M, ac = M := ⟨_, rfl⟩
                              rw [hM] at HL HM2 hac
                              obtain ⟨vk, hvk⟩ : ∃ vk, Value.slice Av mv cv = vk := ⟨_, rfl⟩
                              rw [hvk] at HL
                              clear HM hM hac hk hlt hvk
                              have HM := HM2
                              clear HM2
                              obtain ⟨Ar, mr, cr, hvr⟩ := R_slice' HL.out.rr
                              subst hvr
                              obtain ⟨Ac, mc, cc, hvc⟩ := R_slice' HL.out.rc
                              subst hvc
                              obtain ⟨Ak, mk, ck, hvk⟩ := R_slice' HL.out.rk
                              subst hvk
                              obtain ⟨s0, s1, s2, s3, s4, s5, s6, rfl⟩ := seven HS7.out
                              obtain ⟨a0, a1, a2, a3, rfl⟩ := four HP4.out
                              have hx0 := HL.out.cell 0
                              have hx1 := HL.out.cell 1
                              have hx2 := HL.out.cell 2
                              have hx3 := HL.out.cell 3
                              have hx4 := HL.out.cell 4
                              have hx5 := HL.out.cell 5
                              have hx6 := HL.out.cell 6
                              have hx7 := HL.out.cell 7
                              have hx8 := HL.out.cell 8
                              have hx9 := HL.out.cell 9
                              have hx10 := HL.out.cell 10
                              have hx11 := HL.out.cell 11
                              have hx12 := HL.out.cell 12
                              have hx13 := HL.out.cell 13
                              have hx14 := HL.out.cell 14
                              unfold dcells at hx0 hx1 hx2 hx3 hx4 hx5 hx6 hx7 hx8 hx9 hx10 hx11 hx12 hx13 hx14
                              simp only [List.map_cons, List.map_nil, List.cons_append, List.nil_append, List.getElem?_cons_zero, List.getElem?_cons_succ] at hx0 hx1 hx2 hx3 hx4 hx5 hx6 hx7 hx8 hx9 hx10 hx11 hx12 hx13 hx14
                              have HFI : Aside0 (FI W wr g g2 gl (.slice Ar mr cr) (.slice Ac mc cc) (.slice Ak mk ck) R C M) := ⟨⟨HL.out.rr, HL.out.rc, HL.out.rk, HL.out.gr, HL.out.o2, HL.out.o4⟩⟩
                              obtain ⟨cs, hgx, hsz⟩ := HL.out.gx
                              obtain ⟨y0, y1, y2, y3, y4, y5, y6, y7, y8, y9, y10, y11, y12, y13, y14, rfl⟩ := fifteen hsz
                              have hz0 := blk_cell hgx 0
                              have hw0 := blk_free hgx 0
                              have hz1 := blk_cell hgx 1
                              have hw1 := blk_free hgx 1
                              have hz2 := blk_cell hgx 2
                              have hw2 := blk_free hgx 2
                              have hz3 := blk_cell hgx 3
                              have hw3 := blk_free hgx 3
                              have hz4 := blk_cell hgx 4
                              have hw4 := blk_free hgx 4
                              have hz5 := blk_cell hgx 5
                              have hw5 := blk_free hgx 5
                              have hz6 := blk_cell hgx 6
                              have hw6 := blk_free hgx 6
                              have hz7 := blk_cell hgx 7
                              have hw7 := blk_free hgx 7
                              have hz8 := blk_cell hgx 8
                              have hw8 := blk_free hgx 8
                              have hz9 := blk_cell hgx 9
                              have hw9 := blk_free hgx 9
                              have hz10 := blk_cell hgx 10
                              have hw10 := blk_free hgx 10
                              have hz11 := blk_cell hgx 11
                              have hw11 := blk_free hgx 11
                              have hz12 := blk_cell hgx 12
                              have hw12 := blk_free hgx 12
                              have hz13 := blk_cell hgx 13
                              have hw13 := blk_free hgx 13
                              have hz14 := blk_cell hgx 14
                              have hw14 := blk_free hgx 14
                              have hg2l := blk_lt hgx
                              simp only [List.getElem?_toArray, List.getElem?_cons_zero, List.getElem?_cons_succ] at hz0 hz1 hz2 hz3 hz4 hz5 hz6 hz7 hz8 hz9 hz10 hz11 hz12 hz13 hz14
                              have HGX := Aside0.mk hgx
                              clear hgx hsz HL
                              go_wp2
                              have HFX := Aside0.mk (((((((((((((((HFI.out.set 0 (.string tag)).set 1 (.int .i32 s0)).set 2 (.int .i32 s1)).set 3 (.int .i32 s2)).set 4 (.int .i32 s3)).set 5 (.int .i32 s4)).set 6 (.int .i32 s5)).set 7 (.int .i32 s6)).set 8 (.string a0)).set 9 (.string a1)).set 10 (.string a2)).set 11 (.string a3)).set 12 (.slice Ar mr cr)).set 13 (.slice Ac mc cc)).set 14 (.slice Ak mk ck))
                              have HS15 := Aside0.mk (set15 wr g2 (.string tag) (.int .i32 s0) (.int .i32 s1) (.int .i32 s2) (.int .i32 s3) (.int .i32 s4) (.int .i32 s5) (.int .i32 s6) (.string a0) (.string a1) (.string a2) (.string a3) (.slice Ar mr cr) (.slice Ac mc cc) (.slice Ak mk ck) y0 y1 y2 y3 y4 y5 y6 y7 y8 y9 y10 y11 y12 y13 y14 HGX.out)
                              clear HFI HGX hx0 hz0 hw0 hx1 hz1 hw1 hx2 hz2 hw2 hx3 hz3 hw3 hx4 hz4 hw4 hx5 hz5 hw5 hx6 hz6 hw6 hx7 hz7 hw7 hx8 hz8 hw8 hx9 hz9 hw9 hx10 hz10 hw10 hx11 hz11 hw11 hx12 hz12 hw12 hx13 hz13 hw13 hx14 hz14 hw14
                              refine bodyPost_ret (results_loc _ g2 _ rfl (.string tag) (.int .i32 s0) (.int .i32 s1) (.int .i32 s2) (.int .i32 s3) (.int .i32 s4) (.int .i32 s5) (.int .i32 s6) (.string a0) (.string a1) (.string a2) (.string a3) (.slice Ar mr cr) (.slice Ac mc cc) (.slice Ak mk ck) HS15.out) rfl ⟨HFX.out.gr, ?_⟩
                              rw [HM.out]
                              exact ⟨_, rfl, HFX.out.owns tag s0 s1 s2 s3 s4 s5 s6 a0 a1 a2 a3⟩
end Go.Proofs.Ytfbmgjanplnabaa
