/- WindowOnce: the walk. -/
import Derived.Test.YtdiepeomhnkgpaaOnceA
import Derived.Test.YtdiepeomhnkgpaaHAlive
import Derived.Deep.DeepCutAuto
namespace Go.Proofs.Ytdiepeomhnkgpaa
open Go.Proofs Go.Maps Go.RowKit Go.Sort Go.Shelf
set_option linter.unusedVariables false

set_option maxHeartbeats 2000000 in
set_option maxRecDepth 100000 in
theorem windowOnce_walk (width late mst : Int) (w0 : 0 ≤ width) (w1 : width ≤ 255) (l0 : 0 ≤ late) (l1 : late ≤ 255) (m0 : 0 ≤ mst) (m1 : mst ≤ 255) (A : Option Addr) (cap : Nat) (l : List (Int × Int × Int)) (W : World) (hA : Acts W A l) :
    Calls Try.prog 4 #[.int .u8 width, .int .u8 late, .int .u8 mst, .slice A l.length cap] W fun e w' => e = .returned (.bool true) ∧ Below W.heap.size W w' := by
  have HAl := Lib.hid (alive_calls W)
  have hlen := hA.len
  by_cases hbig : 100 < l.length
  · have hd : decide ((100 : Int) < (l.length : Int)) = true := decide_eq_true (by omega)
    clear hA hlen hbig
    go_enter Try.func4, Try.ntmps4
    go_wp2_with (go_at_call 7; refine HAl.out.mono ?_; rintro e W1 ⟨rfl, hb1⟩)
    go_ret
    exact ⟨rfl, hb1⟩
  have hd : decide ((100 : Int) < (l.length : Int)) = false := decide_eq_false (by omega)
  have HN := fun X => Lib.hid (new_ok (1 + width) late (1 + mst) (by omega) (by omega) (by omega) (by omega) (by omega) X)
  have HAc := Lib.hid hA
  clear hA hlen
  go_enter Try.func4, Try.ntmps4
  go_wp2_with (first
    | (go_at_call 7; refine HAl.out.mono ?_; rintro e W1 ⟨rfl, hb1⟩)
    | (go_at_call 11; refine (HN _).out.mono ?_; rintro e W2 ⟨rfl, hB2, hb2, hs2⟩))
  have hbW : Below W.heap.size W W2 := hb1.trans (hb2.mono hb1.size)
  have S0 : St W (W1.heap.size + 1) W1.heap.size (1 + width) late (1 + mst) W2 (.slice none 0 0) [] 0 0 0 [] :=
    ⟨hbW, hB2, ⟨by omega, by omega, by omega, by omega, by omega, by omega⟩, ⟨by have := hb1.size; omega, hb1.size⟩, World.ownsRow_nil _ _ _ _, ⟨by simp [Value.ownBlock], by simp [Value.ownBlock]⟩, Nat.le_refl _, by simp, by simp; omega, by simp⟩
  have SH := Lib.hid S0
  clear S0 hB2 hb2 hb1 hbW HN HAl
  generalize W1.heap.size + 1 = g at SH
  generalize W1.heap.size = b at SH hs2
  clear hs2
  go_loopg [11, 12] l.length (fun k s11 s12 wr => ∃ (i : Nat) (gone : List Int) (nn : Nat) (mk : Int) (m : List (Int × Int)), i ≤ l.length ∧ k = l.length - i ∧ s12 = .int .i64 i ∧ Hid (St W g b (1 + width) late (1 + mst) wr s11 gone i nn mk m ∧ ∀ p ∈ m, overB p.1 (1 + width) late mk = false))
  case atStart => exact ⟨0, [], 0, 0, [], by omega, by omega, by first | rfl | simp, Lib.hid ⟨SH.out, by simp⟩⟩
  case round =>
    clear SH
    obtain ⟨i, gone, nn, mk, m, hil, rfl, rfl, hst⟩ := hrel
    by_cases hlt : i < l.length
    · have hltz : (i : Int) < (l.length : Int) := by omega
      obtain ⟨⟨kind, T, V⟩, hx⟩ : ∃ x, l[i]? = some x := ⟨_, List.getElem?_eq_getElem hlt⟩
      obtain ⟨ab, off, rfl, hab, k1, k2, _, hT, hV⟩ := HAc.out.at_ i _ hx
      have k1' := (hst.out.1.below.cell (p := ⟨ab, off + i * 3, none⟩) hab).trans k1
      have k2' := (hst.out.1.below.cell (p := ⟨ab, off + i * 3 + 1, none⟩) hab).trans k2
      dsimp only at k1' k2' hT hV
      clear k1 k2 hx
      go_upto_if 50 with (fail)
      have hnn : nn < maxLen := by have := hst.out.1.nn; unfold maxLen; omega
      have hmx : mk ≤ max mk T ∧ max mk T < 18446744073709551616 := by have := hst.out.1.fine.m1; omega
      have hml : m.length ≤ 1000000 := by have := hst.out.1.cnt; omega
      have HAt := Lib.hid (at_nil hst.out.1.book hst.out.1.fine T hT.1 hT.2 hnn hst.out.1.room hst.out.2)
      have HSe := Lib.hid (seal_calls hst.out.1.book hst.out.1.fine T hT.1 hT.2 hml hst.out.1.book.bounds)
      replace hmx := Lib.hid hmx
      clear hnn hml
      go_cut [11] (fun s11 wc => ∃ (gone' : List Int) (nn' : Nat) (mk' : Int) (m' : List (Int × Int)), Hid (St W g b (1 + width) late (1 + mst) wc s11 gone' (i + 1) nn' mk' m' ∧ ∀ p ∈ m', overB p.1 (1 + width) late mk' = false))
      case first =>
        by_cases hkind : kind = 0
        · have hkb : (kind == 0) = true := beq_iff_eq.2 hkind
          clear hkind
          go_wp2_with (go_at_call 12; refine HAt.out.mono ?_; rintro e w2 ⟨v, f, nn', m', rfl, hB', h1, h2, h3, h4, hg'⟩)
          go_meet
          case rel =>
            have hs := hst.out.1
            exact ⟨gone, nn', mk, m', Lib.hid ⟨hs.step hg' (.inr (.inr rfl)) hB' (Int.le_refl _) hs.fine.m1 (by have := hs.nn; omega) (by have := hs.cnt; omega) h3, h4⟩⟩
        · have hkb : (kind == 0) = false := beq_eq_false_iff_ne.2 hkind
          clear hkind
          generalize hmk2 : max mk T = mk2 at HSe hmx
          clear hmk2
          go_wp2_with (go_at_call 13; refine HSe.out.mono ?_; rintro e w2 ⟨v, rfl, hrow, hB', hg'⟩)
          have hS1 : St W g b (1 + width) late (1 + mst) w2 u11 gone i nn mk2 m := by
            have hs := hst.out.1
            exact hs.step hg' (.inr (.inl rfl)) hB' hmx.out.1 hmx.out.2 hs.nn hs.cnt hs.room
          have hR1 := Rest.start (wd := 1 + width) (lt := late) (mk := mk2) hB'.nodup
          have hssl : ((keysOf m).filter (fun y => overB y (1 + width) late mk2)).length ≤ 100 := by
            have h1 := List.length_filter_le (fun y => overB y (1 + width) late mk2) (keysOf m)
            have h2 := hst.out.1.cnt
            rw [keysOf_length] at h1
            omega
          generalize hss : (keysOf m).filter (fun y => overB y (1 + width) late mk2) = ss at hrow hR1 hssl
          clear hss
          have hsl : Sl w2 wr.heap.size v u11 g b ss := by
            have hs := hst.out.1
            have hl := hs.book.lt
            refine ⟨hrow, fun e => ?_, fun e => ?_, ?_⟩
            · have := (hrow.lt _ e).1; omega
            · have := (hrow.lt _ e).1; omega
            · cases hv : v.ownBlock with
              | none => exact .inl rfl
              | some k => exact .inr (fun e => by have h1 := (hrow.lt _ hv).1; have h2 := (hs.row.lt _ e.symm).2; omega)
          obtain ⟨V, cap2, rfl, _⟩ := ownsRow_form hrow
          have HS := Lib.hid (And.intro hS1 (And.intro hR1 hsl))
          clear hS1 hR1 hsl hrow hB' hg' HSe HAt hmx hst k1' k2'
          go_loopg [11, 14] ss.length (fun k s11 s14 wx => ∃ (done rest : List Int) (gone' : List Int) (m' : List (Int × Int)), k = rest.length ∧ s14 = .int .i64 done.length ∧ Hid (ss = done ++ rest ∧ St W g b (1 + width) late (1 + mst) wx s11 gone' i nn mk2 m' ∧ Rest (1 + width) late mk2 m' rest ∧ Sl wx wr.heap.size (.slice V ss.length cap2) s11 g b ss))
          case atStart => exact ⟨[], ss, gone, m, rfl, rfl, Lib.hid ⟨rfl, HS.out⟩⟩
          case round =>
            clear HS
            obtain ⟨done, rest, gone', m', rfl, rfl, hI⟩ := hrel
            cases rest with
            | nil =>
              have hj : ¬ ((done.length : Int) < (ss.length : Int)) := by have := hI.out.1; rw [this]; simp
              go_wp2
              go_meet
              case rel => exact ⟨gone', nn, mk2, m', Lib.hid ⟨hI.out.2.1.later, hI.out.2.2.1.clean⟩⟩
            | cons x rest =>
              have hj : (done.length : Int) < (ss.length : Int) := by have := hI.out.1; rw [this]; simp; omega
              obtain ⟨gb, capv, hve, hcx⟩ := hI.out.2.2.2.cell done rest x hI.out.1
              cases hve
              obtain ⟨p, hp, hpx⟩ := List.mem_map.1 (hI.out.2.2.1.sub x (by simp))
              obtain ⟨px, pv⟩ := p
              dsimp only at hpx
              subst hpx
              have HT := Lib.hid (take_there hI.out.2.1.book px pv hp)
              obtain ⟨i0, hi, hz0, hz1, hz2⟩ := info_parts info22u
              have hbm := hI.out.2.1.cnt
              replace hbm := Lib.hid hbm
              go_wp2_with (first
                | (go_at_call 14; refine HT.out.mono ?_; rintro e w3 ⟨rfl, hB3, hg3⟩; have hcx3 := (hg3.grown.cell hcx (by intro e; exact hI.out.2.2.2.b (by rw [← e]; rfl))))
                | (at_builtin; refine wpList_append_own_at _ rfl _ _ 32 rfl W.heap.size 22 i0 (.int .u64 0) 1 8 Try.underlying32 hi hz0 hz1 hz2 rfl (by decide) _ _ _ rfl ((hI.out.2.1.row.kept hg3.grown (.inr hI.out.2.1.far.2)).alloc _) ⟨w3.heap.size, 0, none⟩ 1 1 [.int .u64 px] rfl rfl (cell_one_new _ _ _) (by simp [Value.oneCell']) (by have := hbm.out; unfold maxLen; omega) (by have := hbm.out; omega) (by have := hI.out.2.1.below.size; have := hg3.grown.size; simp; omega) ?_; intro v' w4 hown' hgrow _ hat))
              have hmem : px ∈ m'.map Prod.fst := List.mem_map_of_mem hp
              have hsh := filter_short hmem
              have hS2 := hI.out.2.1.step hg3.grown (.inr (.inr rfl)) hB3 (Int.le_refl _) hI.out.2.1.fine.m1 hI.out.2.1.nn (k' := i) (by have := hbm.out; omega) (by have := hI.out.2.1.room; omega)
              have hS3 := hS2.step (World.grownBy_alloc w3 (.cells #[.int .u64 px] 22) none) (.inl rfl) (hS2.book.kept (World.grownBy_alloc w3 _ none) (by simp) (by simp)) (Int.le_refl _) hS2.fine.m1 hS2.nn hS2.cnt hS2.room
              have hat' : v'.ownBlock = u11.ownBlock ∨ ∃ j, v'.ownBlock = some j ∧ (w3.alloc (.cells #[.int .u64 px] 22)).heap.size ≤ j := by
                rcases hat with e | e
                · exact .inl e
                · exact .inr ⟨_, e, Nat.le_refl _⟩
              have hS4 := hS3.grow hgrow px hown' hat' (hI.out.2.2.1.over px (by simp)) (by have := hbm.out; omega)
              have hsl4 := ((hI.out.2.2.2.kept hg3.grown (.inr (.inr (.inl rfl))) (.inl rfl)).kept (World.grownBy_alloc w3 (.cells #[.int .u64 px] 22) none) (.inl rfl) (.inl rfl)).kept hgrow (.inr (.inr (.inr rfl))) hat'
              go_roundg rest.length
              case measure => simp
              case rel => exact ⟨done ++ [px], rest, gone' ++ [px], _, rfl, by rw [List.length_append]; go_num, Lib.hid ⟨by rw [hI.out.1]; simp, hS4, hI.out.2.2.1.next, hsl4⟩⟩
      case rest =>
        clear HAt HSe hst hmx k1' k2' nn mk m hT hV
        obtain ⟨gone', nn', mk', m', hst⟩ := hcut
        have hml : m'.length ≤ 101 := by have := hst.out.1.cnt; omega
        have hroom : decide (1 + mst < ((keysOf m').length : Int)) = false := decide_eq_false (by have := hst.out.1.room; rw [keysOf_length]; omega)
        have HO := Lib.hid (open_calls hst.out.1.book (by omega))
        have hkl : (keysOf m').length ≤ 101 := by rw [keysOf_length]; exact hml
        go_wp2_with (go_at_call 15; refine HO.out.mono ?_; rintro e w5 ⟨v5, rfl, hrow5, hb5⟩; obtain ⟨V5, cap5, rfl, hc5⟩ := ownsRow_form hrow5)
        have S5 : St W g b (1 + width) late (1 + mst) w5 u11 gone' (i + 1) nn' mk' m' := by
          have hs := hst.out.1
          exact hs.step (grownBy_of_below hb5 none) (.inl rfl) (hs.book.below hb5) (Int.le_refl _) hs.fine.m1 hs.nn hs.cnt hs.room
        obtain ⟨V11, cap11, rfl, hc11⟩ := ownsRow_form S5.row
        have HM := fun q => Lib.hid ((mark_calls (S5.book.drewN q)).mono (R' := fun e w' => e = .returned (.int .u64 mk') ∧ w' = w5.drewN q) (fun e w' ⟨a, c⟩ => ⟨a, c.symm⟩))
        have hov : ∀ x ∈ keysOf m', overB x (1 + width) late mk' = false := fun x hx => by
          obtain ⟨p, hp, rfl⟩ := List.mem_map.1 (keysOf_mem.1 hx)
          exact hst.out.2 p hp
        have hgl : gone'.length ≤ 101 := by have := S5.cnt; omega
        have hbd := S5.book.bounds
        have hF := S5.fine
        have HP := Lib.hid (And.intro S5 (And.intro hov (And.intro hbd (And.intro hc5 hc11))))
        clear S5 hov hbd hc5 hc11 hrow5 hb5 hst HO hroom
        have HV := fun x h0 h1 X => Lib.hid ((over_calls x (1 + width) late mk' h0 h1 (by omega) (by omega) l0 (by omega) hF.m1 X).mono (R' := fun e w' => e = .returned (.bool (overB x (1 + width) late mk')) ∧ w' = X) (fun e w' ⟨a, c⟩ => ⟨a, c.symm⟩))
        have hwr1 : IntKind.u64.wrap (1 + width) = 1 + width := IntWalk.u64_in _ ⟨by omega, by omega⟩
        have hwr2 : IntKind.u64.wrap width = width := IntWalk.u64_in _ ⟨by omega, by omega⟩
        have hwr3 : IntKind.u64.wrap late = late := IntWalk.u64_in _ ⟨by omega, by omega⟩
        replace hF := Lib.hid hF
        go_loopg [18] (keysOf m').length (fun k s18 wx => ∃ (j q : Nat), j ≤ (keysOf m').length ∧ k = (keysOf m').length - j ∧ s18 = .int .i64 j ∧ wx = w5.drewN q)
        case atStart => exact ⟨0, 0, by omega, by omega, rfl, rfl⟩
        case round =>
          obtain ⟨j, q, hjl, rfl, rfl, rfl⟩ := hrel
          by_cases hj : j < (keysOf m').length
          · have hjz : (j : Int) < ((keysOf m').length : Int) := by omega
            obtain ⟨x, hx⟩ : ∃ x, (keysOf m')[j]? = some x := ⟨_, List.getElem?_eq_getElem hj⟩
            have hxm : x ∈ keysOf m' := List.mem_of_getElem? hx
            obtain ⟨g5, rfl, _, hcx⟩ := HP.out.2.2.2.1 j (.int .u64 x) (by simp [hx, encU])
            have hxb := HP.out.2.2.1 x hxm
            have hxo := HP.out.2.1 x hxm
            have HVx := fun X => HV x hxb.1 hxb.2 X
            rw [hxo] at HVx
            clear hx hxm hxb HV
            go_wp2
            go_loopg [19] gone'.length (fun k s19 wx => ∃ (j2 q2 : Nat), j2 ≤ gone'.length ∧ k = gone'.length - j2 ∧ s19 = .int .i64 j2 ∧ wx = w5.drewN q2)
            case atStart => exact ⟨0, q, by omega, by omega, rfl, rfl⟩
            case round =>
              obtain ⟨j2, q2, hj2l, rfl, rfl, rfl⟩ := hrel
              by_cases hj2 : j2 < gone'.length
              · have hjz2 : (j2 : Int) < (gone'.length : Int) := by omega
                obtain ⟨y, hy⟩ : ∃ y, gone'[j2]? = some y := ⟨_, List.getElem?_eq_getElem hj2⟩
                obtain ⟨g11, rfl, _, hcy⟩ := HP.out.2.2.2.2 j2 (.int .u64 y) (by simp [hy, encU])
                have hxy : (x == y) = false := beq_eq_false_iff_ne.2 (fun e => by
                  have := HP.out.1.low y (List.mem_of_getElem? hy)
                  rw [← e, hxo] at this
                  cases this)
                clear hy
                go_wp2
                go_quiet (fail)
                go_wp2
                go_roundg (gone'.length - (j2 + 1))
                case measure => omega
                case rel => exact ⟨j2 + 1, _, by omega, rfl, by go_num, by first | rfl | exact World.drewN_drewN _ _ _⟩
              · have hjz2 : ¬ (j2 : Int) < (gone'.length : Int) := by omega
                go_wp2
                go_quiet (first | (go_at_call 16; exact (HM _).out.mono (fun e w' h => ⟨h.1, _, h.2⟩)) | (go_at_call 8; exact (HVx _).out.mono (fun e w' h => ⟨h.1, _, h.2⟩)))
                go_wp2
                go_roundg ((keysOf m').length - (j + 1))
                case measure => omega
                case rel => exact ⟨j + 1, _, by omega, rfl, by go_num, by first | rfl | exact World.drewN_drewN _ _ _⟩
          · have hjz : ¬ (j : Int) < ((keysOf m').length : Int) := by omega
            go_wp2
            go_roundg (l.length - (i + 1))
            case measure => omega
            case rel =>
              have hs := HP.out.1
              exact ⟨i + 1, gone', nn', mk', m', by omega, rfl, by go_num, Lib.hid ⟨hs.step (grownBy_of_below (below_drewN' (Below.refl _ _) q) none) (.inl rfl) (hs.book.drewN q) (Int.le_refl _) hs.fine.m1 hs.nn hs.cnt hs.room, fun p hp => HP.out.2.1 p.1 (keysOf_mem.2 (List.mem_map_of_mem hp))⟩⟩
    · have hltz : ¬ (i : Int) < (l.length : Int) := by omega
      go_wp2
      go_ret
      exact ⟨rfl, hst.out.1.below⟩
end Go.Proofs.Ytdiepeomhnkgpaa
