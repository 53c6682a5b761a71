/-
  revetmentlaw16.Copy: a stream of its own that is alike.
-/
import Derived.Test.YtdglkjpdhnnpnaaStrREnc
import Derived.Test.YtdglkjpdhnnpnaaParRec
namespace Go.Proofs.Ytdglkjpdhnnpnaa
open Go Go.RowKit Go.Shelf

/-- A record whose bytes the call owns. -/
structure CRec (w : World) (B : Nat) (r : Rec) : Prop where
  own : OwnB w B 5 r.A r.cap r.data
  f1 : -9223372036854775808 ≤ r.fr
  f2 : r.fr ≤ 9223372036854775807
  c1 : -9223372036854775808 ≤ r.ct
  c2 : r.ct ≤ 9223372036854775807
theorem CRec.ok {w : World} {B : Nat} {r : Rec} (h : CRec w B r) : r.Ok w w.heap.size := ⟨h.own.bytes, h.own.cap, h.own.capMax, h.f1, h.f2, h.c1, h.c2⟩
theorem CRec.below {w w' : World} {B : Nat} {r : Rec} (h : CRec w B r) (hb : Below w.heap.size w w') : CRec w' B r := ⟨h.own.below hb (Nat.le_refl _), h.f1, h.f2, h.c1, h.c2⟩
/-- Behind a step that turns a row of another type. -/
theorem CRec.kept {w w' : World} {B : Nat} {r : Rec} {row : Option Nat} (h : CRec w B r) (hg : w.grownBy w' row) (hne : ∀ k, row = some k → ∃ cs t f, w.heap[k]? = some (.cells cs t f) ∧ t ≠ 5) : CRec w' B r := by
  refine ⟨h.own.kept hg ?_, h.f1, h.f2, h.c1, h.c2⟩
  cases hA : r.A.map (·.block) with
  | none => exact .inl rfl
  | some k =>
    refine .inr fun e => ?_
    obtain ⟨cs, hk⟩ := h.own.row k hA
    obtain ⟨cs', t, f, hk', ht⟩ := hne k e.symm
    exact ne_of_type hk hk' (Ne.symm ht) rfl
theorem CRec.mono {w : World} {B B' : Nat} {r : Rec} (h : CRec w B r) (hB : B' ≤ B) : CRec w B' r := ⟨h.own.mono hB, h.f1, h.f2, h.c1, h.c2⟩
theorem OwnR.kept_type {w w' : World} {base : Nat} {A : Option Addr} {c : Nat} {l : List Rec} {row : Option Nat} (h : OwnR w base A c l) (hg : w.grownBy w' row) (hne : ∀ k, row = some k → ∃ cs t f, w.heap[k]? = some (.cells cs t f) ∧ t ≠ 39) : OwnR w' base A c l := by
  refine h.kept hg ?_
  cases hA : A.map (·.block) with
  | none => exact .inl rfl
  | some k =>
    refine .inr fun e => ?_
    obtain ⟨cs, hk⟩ := h.row k hA
    obtain ⟨cs', t, f, hk', ht⟩ := hne k e.symm
    exact ne_of_type hk hk' (Ne.symm ht) rfl

theorem app_rec_n (w : World) (base : Nat) (hbase : base ≤ w.heap.size) {A : Option Addr} {c : Nat} {l : List Rec} (n : Nat) (hn : n = l.length) (hown : OwnR w base A c l) (hl : n ≤ 1000000) (X : List Value) (r : Rec) (hX : X = r.val) {h : Nat} (hrow : RowAt w h 39 X) :
    ∃ (zs : List Rec) (A' : Option Addr) (c' : Nat) (w' : World), Hid (zs = l ++ [r]) ∧ (∀ (o : Oper) (a : Act) (s x : Operand), o.op = .call { callee := .builtin .append, args := #[s, x], argTypes := #[22, 22] } → o.type = 22 → a.eval s = .slice A n c → a.eval x = .slice (some ⟨h, 0, none⟩) 1 1 →
      (execOp a.eval o).run Try.prog w = .ok (.value (.slice A' zs.length c')) w') ∧ OwnR w' base A' c' zs ∧ w.grownBy w' (A.map (·.block)) := by
  subst hn
  exact app_rec w base hbase hown hl X r hX hrow
set_option maxRecDepth 100000 in
set_option maxHeartbeats 8000000 in
theorem copy16_calls (s : Str) (w : World) (hmany : s.recs.length ≤ 100000) (hdat : ∀ r ∈ s.recs, r.data.length ≤ 100000) (hok : s.Ok w w.heap.size) :
    Calls Try.prog 13 #[.agg s.val.toArray] w fun e w' => ∃ t : Str, e = .returned (.agg t.val.toArray) ∧ t.Ok w' w'.heap.size ∧ t.pl = s.pl ∧ Below w.heap.size w w' := by
  obtain ⟨SV, hSV⟩ : ∃ SV, SV = s.val := ⟨_, rfl⟩
  have HS4 := Lib.hid (show SV.length = 4 by rw [hSV]; rfl)
  have HST := Lib.hid (show (SV.drop 0).take 4 = SV from List.take_of_length_le (Nat.le_of_eq HS4.out))
  have HSV := Lib.hid hSV
  rw [← hSV]
  clear hSV
  have hrecs := Lib.hid hok.recs
  replace hdat := Lib.hid hdat
  have hbd := Lib.hid (show (-9223372036854775808 ≤ s.blocks ∧ s.blocks ≤ 9223372036854775807) ∧ (-9223372036854775808 ≤ s.base ∧ s.base ≤ 9223372036854775807) ∧ (-9223372036854775808 ≤ s.id ∧ s.id ≤ 9223372036854775807) from ⟨⟨hok.b1, hok.b2⟩, ⟨hok.a1, hok.a2⟩, ⟨hok.i1, hok.i2⟩⟩)
  clear hok
  go_enter Try.func13, Try.ntmps13
  go_wp2_with (first
    | (refine wpList_box_row 1 rfl 24 _ rfl SV rfl rfl ?_; intro w1 hrs hz1 hB1)
    | (refine wpList_alloc_row 2 rfl 24 rfl _ rfl zero_str ?_; intro w2 hrr hz2 hB2))
  have hrs2 := hrs.step hB2
  have hW2 := bthen hB1 hB2
  have hsz : w2.heap.size = w.heap.size + 2 := by omega
  rw [hz1] at hrr
  clear hrs hB1 hB2 hz1 hz2
  go_loopw [3, 4] (fun v i wr => ∃ (ls : List Rec) (A : Option Addr) (c : Nat), ls.length ≤ s.recs.length ∧ i = .int .i64 (ls.length : Int) ∧ v = .slice A ls.length c ∧ Hid (ls.map Rec.pl = (s.recs.take ls.length).map Rec.pl) ∧ OwnR wr w2.heap.size A c ls ∧ (∀ r ∈ ls, CRec wr w2.heap.size r) ∧ Since w2 wr) (fun _ i _ => s.recs.length - (intOf i).toNat)
  case atStart => exact ⟨[], none, 0, Nat.zero_le _, rfl, rfl, Lib.hid rfl, OwnR.nil _ _, fun r hr => absurd hr (by simp), Since.refl _⟩
  case round =>
  obtain ⟨ls, A, c, hk, rfl, rfl, hls, hown, hcr, hS⟩ := hrel
  have hrsk := hrs2.step hS
  have a3 := hrsk.cellD 3 (.slice s.A s.recs.length s.cap) (by rw [HSV.out]; rfl)
  have hWk := bthen hW2 hS
  by_cases hlt : ls.length < s.recs.length
  · obtain ⟨k, hkk⟩ : ∃ k, k = ls.length := ⟨_, rfl⟩
    rw [← hkk] at hlt hls hk ⊢
    obtain ⟨b, o, hA, hbl, hcs⟩ := hrecs.out.1.resolve_left (fun e => by rw [e] at hlt; simp at hlt)
    have hrok := hrecs.out.2 s.recs[k] (List.getElem_mem hlt)
    have hdx := hdat.out s.recs[k] (List.getElem_mem hlt)
    have HXc := Lib.hid (rec_cells hcs hbl k hlt hWk)
    have htk : (s.recs.take (k + 1)).map Rec.pl = (s.recs.take k).map Rec.pl ++ [s.recs[k].pl] := by
      rw [List.take_succ_eq_append_getElem hlt, List.map_append]
      rfl
    rw [← hls.out] at htk
    obtain ⟨XV, hXV⟩ : ∃ XV, XV = s.recs[k].val := ⟨_, rfl⟩
    rw [← hXV] at HXc
    have hk0 : (0 : Int) ≤ (k : Int) := by omega
    have hk1 : (k : Int) < (s.recs.length : Int) := by omega
    have hd1 : decide ((k : Int) < (s.recs.length : Int)) = true := decide_eq_true hk1
    generalize s.recs[k] = x at hrok hdx hXV htk
    have HXV := Lib.hid hXV
    have HX4 := Lib.hid (show XV.length = 4 by rw [hXV]; rfl)
    have HXo := Lib.hid (show ∀ v ∈ XV, v.oneCell' = true by rw [hXV]; exact rec_one _)
    have hdat2 := hrok.bytes.step hWk
    have hdc := hrok.len
    have hdm := hrok.most
    have hfb := Lib.hid (show (-9223372036854775808 ≤ x.fr ∧ x.fr ≤ 9223372036854775807) ∧ -9223372036854775808 ≤ x.ct ∧ x.ct ≤ 9223372036854775807 from ⟨⟨hrok.f1, hrok.f2⟩, hrok.c1, hrok.c2⟩)
    unfold maxLen at hdm
    replace htk := Lib.hid htk
    replace hcr := Lib.hid hcr
    replace hkk := Lib.hid hkk
    clear hXV hrok hcs
    rw [hA] at a3
    clear hA
    go_upto_region 6 with (first
      | (refine wpList_load_cells 17 rfl 39 (.tmp 16) rfl ⟨b, o + k * 4, none⟩ XV rfl rfl HXc.out 4 HX4.out Try.isAgg39 Try.sizeOf39 ?_)
      | (refine wpList_alloc_row 5 rfl 39 rfl _ rfl zero_rec ?_; intro v3 hr3 hs3 hB3)
      | (refine wpList_store_part 39 (.tmp 5) (.tmp 17) rfl hr3 0 XV rfl rfl rfl (by rw [HX4.out]; exact Try.sizeOf39) (by rw [HX4.out]; decide) HXo.out ?_
         intro v4 hrx hs4 hg4
         rw [splice_all _ _ (by rw [HX4.out]; rfl)] at hrx))
    have hB4 : Since wr v4 := hB3.grown hg4 hB3.size (fun j e => by cases e; exact Nat.le_refl _)
    obtain ⟨gx, hgx0⟩ : ∃ gx, gx = wr.heap.size := ⟨_, rfl⟩
    have hgx : gx < v4.heap.size := by rw [hgx0]; exact hrx.lt
    have hgx1 : wr.heap.size ≤ gx := by omega
    rw [← hgx0] at hrx ⊢
    have hlb := alloc_below v4 (.cells #[] 5)
    have hmade := OwnB.made v4 v4.heap.size 5 (Nat.le_refl _)
    have hda5 := (hdat2.step hB4).step hlb
    have hrx5 := hrx.step hlb
    have e3 := hrx5.cellD 3 (.slice x.A x.data.length x.cap) (by rw [HXV.out]; rfl)
    clear hs3 hs4 hr3 hg4 hB3 hdat2 a3 HXc hrsk hWk hgx0 hrx
    go_wp2_with (first
      | (at_builtin
         refine wpList_app_b hlb.size rfl _ _ 25 rfl Try.underlying25 Try.info_byte 0 (by rfl) hmade x.cap _ rfl hda5 (by rfl) (by rfl) (by omega) ?_
         intro z6 A6 c6 w6 hz6 o6 hg6 _
         have s6 : Since v4 w6 := grown_b hlb (Nat.le_refl _) hmade hg6
         have hrx6 := (hrx5.below (B := v4.heap.size) ((Below.refl _ _).grown hg6 hlb.size (fun j e => (hmade.lt j e).1)) hgx)
         have f3 := hrx6.cellD 3 (.slice x.A x.data.length x.cap) (by rw [HXV.out]; rfl)
         have g3 := hrx6.free 3
         have hrx7 := hrx6.set 3 (.slice A6 z6.length c6)
         have hset := setCell_grown w6 gx 3 (.slice A6 z6.length c6)
         have s7 : Since wr (w6.setCell ⟨gx, 3, none⟩ (.slice A6 z6.length c6)) := (hB4.then_ s6).grown hset (hB4.then_ s6).size (fun j e => by cases e; exact hgx1)
         have o7 : OwnB (w6.setCell ⟨gx, 3, none⟩ (.slice A6 z6.length c6)) v4.heap.size 5 A6 c6 z6 := apart_own o6 hset (fun k e => by cases e; exact hgx)
         have hX7' : XV.set 3 (.slice A6 z6.length c6) = (⟨x.fr, x.ct, x.zs, A6, c6, z6⟩ : Rec).val := by rw [HXV.out]; rfl
         rw [hX7'] at hrx7
         clear hX7' e3 hset hrx5 hrx6 o6 hg6 s6 hmade hda5 hlb
         obtain ⟨X7, hX7⟩ : ∃ X7, X7 = (⟨x.fr, x.ct, x.zs, A6, c6, z6⟩ : Rec).val := ⟨_, rfl⟩
         rw [← hX7] at hrx7
         have HX7 := Lib.hid hX7
         have HX47 := Lib.hid (show X7.length = 4 by rw [hX7]; rfl)
         have HXT7 := Lib.hid (show (X7.drop 0).take 4 = X7 from List.take_of_length_le (Nat.le_of_eq HX47.out))
         clear hX7)
      | (refine wpList_load_part 24 rfl 39 (.tmp 5) rfl hrx7 0 4 X7 rfl rfl HXT7.out HX47.out Try.isAgg39 Try.sizeOf39 ?_
         clear f3 g3)
      | (refine wpList_lit_row 25 rfl 22 39 (.tmp 24) rfl X7 rfl rfl 4 HX47.out (z := .agg #[.int .i64 0, .int .i64 0, .bool false, .slice none 0 0]) (b := 48) Try.underlying22 (by kernel_rfl) (by decide) (by decide) ?_
         intro w8 hw8 hlr
         have hb8 := alloc_below (w6.setCell ⟨gx, 3, none⟩ (.slice A6 z6.length c6)) (.cells X7.toArray 39)
         rw [← hw8] at hb8
         clear hw8
         have s8 := s7.then_ hb8
         have own8 := hown.below s8 (Nat.le_refl _)
         have sW8 := hS.then_ s8
         obtain ⟨zs9, A9, c9, w9, hz9, hex, own9, hg9⟩ := app_rec_n w8 w2.heap.size sW8.size k hkk.out own8 (by omega) X7 _ HX7.out hlr
         have o8 := o7.below hb8 (Nat.le_refl _)
         clear hlr hrx7 s7 hb8 o7)
      | (refine wpList_run rfl _ w9 (hex _ _ (.tmp 23) (.tmp 25) rfl rfl rfl rfl) ?_))
    have s9 : Since w2 w9 := sW8.grown hg9 sW8.size (fun j e => (own8.lt j e).1)
    have hty : ∀ j, A.map (·.block) = some j → ∃ cs t f, w8.heap[j]? = some (.cells cs t f) ∧ t ≠ 5 := fun j e => by
      obtain ⟨cs, h⟩ := own8.row j e
      exact ⟨cs, _, _, h, by decide⟩
    have hcr9 : ∀ r ∈ zs9, CRec w9 w2.heap.size r := by
      intro r hr
      rw [hz9.out] at hr
      rcases List.mem_append.1 hr with hr | hr
      · exact ((hcr.out r hr).below s8).kept hg9 hty
      · rw [List.mem_singleton.1 hr]
        exact (show CRec w8 w2.heap.size (⟨x.fr, x.ct, x.zs, A6, c6, z6⟩ : Rec) from ⟨o8.mono (Nat.le_trans hS.size hB4.size), hfb.out.1.1, hfb.out.1.2, hfb.out.2.1, hfb.out.2.2⟩).kept hg9 hty
    have hl9 : zs9.length = k + 1 := by rw [hz9.out, List.length_append, hkk.out]; rfl
    have hp9 : zs9.map Rec.pl = (s.recs.take (k + 1)).map Rec.pl := by
      rw [hz9.out, htk.out, List.map_append]
      congr 1
      have : z6 = x.data := by rw [hz6.out, List.nil_append]
      rw [this]
      rfl
    rw [← hl9] at hp9
    have hke : ((k : Int) + 1) = (zs9.length : Int) := by omega
    have hle : zs9.length ≤ s.recs.length := by omega
    have hme : s.recs.length - zs9.length < s.recs.length - ls.length := by have := hkk.out; omega
    replace hp9 := Lib.hid hp9
    go_roundw
    case rel => exact ⟨zs9, A9, c9, hle, by rw [hke], rfl, hp9, own9, hcr9, s9⟩
    case measure => simp [intOf]; omega
  · have hke := Lib.hid (show ls.length = s.recs.length by omega)
    have hd1 : decide ((ls.length : Int) < (s.recs.length : Int)) = false := decide_eq_false (by omega)
    have hz3 := hrsk.free 3
    have hrs5 := hrsk.set 3 (.slice A ls.length c)
    have hset := setCell_grown wr w.heap.size 3 (.slice A ls.length c)
    have hty : ∀ j, some w.heap.size = some j → ∃ cs t f, wr.heap[j]? = some (.cells cs t f) ∧ t ≠ 39 := fun j e => by
      cases e
      exact ⟨_, _, _, hrsk, by decide⟩
    have hty2 : ∀ j, some w.heap.size = some j → ∃ cs t f, wr.heap[j]? = some (.cells cs t f) ∧ t ≠ 5 := fun j e => by
      cases e
      exact ⟨_, _, _, hrsk, by decide⟩
    have own5 := hown.kept_type hset hty
    have hcr5 : ∀ r ∈ ls, CRec _ w2.heap.size r := fun r hr => (hcr r hr).kept hset hty2
    have hW5 : Below w.heap.size w (wr.setCell ⟨w.heap.size, 3, none⟩ (.slice A ls.length c)) := hWk.grown hset hWk.size (fun j e => by cases e; exact Nat.le_refl _)
    have hrr5 := (hrr.step hS).kept hset (fun e => by injection e with e; omega)
    have htv : SV.set 3 (.slice A ls.length c) = (⟨s.blocks, s.base, s.id, A, c, ls⟩ : Str).val := by rw [HSV.out]; rfl
    rw [htv] at hrs5
    obtain ⟨TV, hTV⟩ : ∃ TV, TV = (⟨s.blocks, s.base, s.id, A, c, ls⟩ : Str).val := ⟨_, rfl⟩
    rw [← hTV] at hrs5
    have HT4 := Lib.hid (show TV.length = 4 by rw [hTV]; rfl)
    have HTT := Lib.hid (show (TV.drop 0).take 4 = TV from List.take_of_length_le (Nat.le_of_eq HT4.out))
    have HTO := Lib.hid (show ∀ v ∈ TV, v.oneCell' = true by rw [hTV]; exact str_one _)
    have HTV := Lib.hid hTV
    clear hTV htv hset hrsk hWk hown hcr hty hty2
    go_wp2_with (first
      | (refine wpList_load_part 29 rfl 24 (.tmp 1) rfl hrs5 0 4 TV rfl rfl HTT.out HT4.out Try.isAgg24 Try.sizeOf24 ?_)
      | (refine wpList_store_part 24 (.tmp 2) (.tmp 29) rfl hrr5 0 TV rfl rfl rfl (by rw [HT4.out]; exact Try.sizeOf24) (by rw [HT4.out]; decide) HTO.out ?_
         intro w6 hr6 _ hg6))
    rw [splice_all _ _ (by rw [HT4.out]; rfl)] at hr6
    refine bodyPost_ret (results_cell_row rfl _ _ _ _ _ _ _ rfl hr6 Try.underlying24 rfl (by rw [List.size_toArray, HT4.out]; kernel_rfl)) rfl ?_
    have hne : ∀ j, some (w.heap.size + 1) = some j → ∃ cs t f, (wr.setCell ⟨w.heap.size, 3, none⟩ (.slice A ls.length c)).heap[j]? = some (.cells cs t f) ∧ t = 24 := fun j e => by
      cases e
      exact ⟨_, _, _, hrr5, rfl⟩
    have own6 := own5.kept_type hg6 (fun j e => by obtain ⟨cs, t, f, h1, h2⟩ := hne j e; exact ⟨cs, t, f, h1, by rw [h2]; decide⟩)
    have hcr6 : ∀ r ∈ ls, CRec w6 w2.heap.size r := fun r hr => (hcr5 r hr).kept hg6 (fun j e => by obtain ⟨cs, t, f, h1, h2⟩ := hne j e; exact ⟨cs, t, f, h1, by rw [h2]; decide⟩)
    have hpl := hls.out
    rw [hke.out, List.take_length] at hpl
    refine ⟨⟨s.blocks, s.base, s.id, A, c, ls⟩, by rw [HTV.out], ⟨own6.recs (fun r hr => (hcr6 r hr).ok), own6.cap.1, own6.cap.2, hbd.out.1.1, hbd.out.1.2, hbd.out.2.1.1, hbd.out.2.1.2, hbd.out.2.2.1, hbd.out.2.2.2⟩, ?_, hW5.grown hg6 hW5.size (fun j e => by cases e; omega)⟩
    simp only [Str.pl, hpl]
end Go.Proofs.Ytdglkjpdhnnpnaa
