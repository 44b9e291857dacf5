/- (*Disk).Append -/
import Derived.Test.YtombehaaaojhdaaDrd
set_option linter.unusedVariables false
namespace Go.Proofs.Ytombehaaaojhdaa
open Go.Maps Go.RowKit

theorem DiskAt.below {w w2 : World} {L : Lab} {db nb sb : Nat} {wv : Value} {φ : List Nat} {fv cv : List Value} {d : DV} (h : DiskAt w L db nb sb wv φ fv cv d) (hb : Below w.heap.size w w2) : DiskAt w2 L db nb sb wv φ fv cv d :=
  h.keep hb.size (fun k hk => hb.block k (h.dom k hk))

theorem BytesAt.lt {w : World} {v : Value} {b : List UInt8} (h : BytesAt w v b) {g : Nat} (hg : v.ownBlock = some g) : g < w.heap.size := by
  rcases h with ho | ⟨g', cur, fz, rfl, hb, _⟩
  · exact (ho.lt g hg).2
  · have e : g' = g := by simpa [Value.ownBlock] using hg
    subst e
    rcases Nat.lt_or_ge g' w.heap.size with h' | h'
    · exact h'
    · rw [Array.getElem?_eq_none h'] at hb; cases hb

/-- a file of a disk got other bytes: its row, and its block, have turned -/
theorem DiskAt.rebyte {w3 w4 : World} {L : Lab} {db nb sb : Nat} {wv : Value} {φ : List Nat} {fv cv : List Value} {d : DV} (h : DiskAt w3 L db nb sb wv φ fv cv d) {i fb : Nat} {f : FileV} {v v' : Value} (hfb : φ[i]? = some fb) (hf : d.files[i]? = some f) (hF : FileAt w3 L i fb v f)
    (F : FileV → FileV) (hby : BytesAt w4 v' (F f).b) (hg : w3.grownBy w4 v.ownBlock) (hat : v'.ownBlock = v.ownBlock ∨ v'.ownBlock = some w3.heap.size) (hsafe : (F f).safe = f.safe) :
    DiskAt (w4.setCell ⟨fb, 0, none⟩ v') (fun k => if v'.ownBlock = some k then some (.row i) else L k) db nb sb wv φ (fv.set i v') cv (d.file i F) ∧
      Turned L (fun k => if v'.ownBlock = some k then some (.row i) else L k) w3 (w4.setCell ⟨fb, 0, none⟩ v') := by
  have hfl : fb < w3.heap.size := h.dom fb (by rw [hF.lab]; simp)
  have hvfb : v.ownBlock ≠ some fb := fun e => by have := hF.row fb e; rw [hF.lab] at this; cases this
  have hB4 : Blk w4 fb 64 #[v, .int .i64 f.safe] := (hg.block fb hfl (fun e => hvfb e.symm)).trans hF.cells
  have hsz : (w4.setCell ⟨fb, 0, none⟩ v').heap.size = w4.heap.size := by simp [World.setCell]
  have hrow : ∀ g, v'.ownBlock = some g → L g = some (.row i) ∨ (w3.heap.size ≤ g ∧ g < (w4.setCell ⟨fb, 0, none⟩ v').heap.size) := fun g e => by
    rcases hat with ha | ha
    · exact .inl (hF.row g (by rw [← ha]; exact e))
    · right
      have := hby.lt e
      rw [ha] at e
      cases e
      exact ⟨Nat.le_refl _, by rw [hsz]; exact this⟩
  refine ⟨h.upd hfb hf F v' (by rw [hsz]; exact hg.size) (fun k hk hne hr => ?_) ?_ ?_ hrow, hg.os, hg.tape, hg.output, by rw [hsz]; exact hg.size, fun k hk hl => ?_, fun k hk hl => ?_⟩
  · rw [Below.heap_setCell _ _ _ _ hne]
    exact hg.block k (h.dom k hk) (fun e => hr (hF.row k e.symm))
  · have := Blk.set_ hB4 0 v'
    show Blk _ fb 64 #[v', .int .i64 (F f).safe]
    rw [hsafe]
    exact this
  · refine hby.keep fun g e => Below.heap_setCell _ _ _ _ fun e2 => ?_
    have e2 : g = fb := e2
    subst e2
    rcases hrow g e with h1 | ⟨h1, _⟩
    · rw [hF.lab] at h1; cases h1
    · omega
  · rw [Below.heap_setCell _ _ _ _ (fun e => by have e : k = fb := e; rw [e, hF.lab] at hl; cases hl)]
    exact hg.block k hk (fun e => by have := hF.row k e.symm; rw [hl] at this; cases this)
  · have hl' : (if v'.ownBlock = some k then some (Lbl.row i) else L k) ≠ none := hl
    by_cases e : v'.ownBlock = some k
    · rcases hrow k e with h1 | ⟨h1, _⟩
      · rw [h1]; simp
      · omega
    · rw [if_neg e] at hl'; exact hl'

theorem Reads.blockp {w w' : World} {B size n : Nat} {A : Option Addr} {xs : List Value} (h : Reads w B size A n xs) (hk : 0 < n → ∀ ad, A = some ad → ad.block < B → w'.heap[ad.block]? = w.heap[ad.block]?) : Reads w' B size A n xs :=
  ⟨h.1, fun hn => by
    obtain ⟨ad, e, hb, hc⟩ := h.2 hn
    exact ⟨ad, e, hb, fun j u hu => (World.cell?_of_block (by rw [block_of_add]; exact hk hn ad e hb)).trans (hc j u hu)⟩⟩

set_option maxHeartbeats 4000000 in
theorem append_disk (w : World) (L : Lab) (db nb sb : Nat) (wv : Value) (φ : List Nat) (fv cv : List Value) (d : DV) (h : DiskAt w L db nb sb wv φ fv cv d) (hok : d.ok) (hu : d.used ≤ 1099511627776) (hc : d.calls ≤ 1099511627776) (s : Nm) (hs : s.length ≤ maxLen)
    (A : Option Addr) (cc : Nat) (bs : List UInt8) (hr : Reads w w.heap.size 1 A bs.length (bcells bs)) (hsep : 0 < bs.length → ∀ ad, A = some ad → L ad.block = none) (hbs : bs.length ≤ 1099511627776) :
    Calls Try.prog 18 #[.pointer (some ⟨db, 0, none⟩), .string ⟨s.toArray⟩, .slice A bs.length cc] w fun e w' => e = .returned (.int .i64 (d.append s bs).2) ∧ DiskTo w L db (d.append s bs).1 w' := by
  have c0 : w.cell? ⟨db, 0, none⟩ = some (.map (some nb)) := (Blk.cell h.cells 0).trans rfl
  have c5 : w.cell? ⟨db, 5, none⟩ = some (.bool d.down) := (Blk.cell h.cells 5).trans rfl
  have c3 : w.cell? ⟨db, 3, none⟩ = some (.int .i64 d.room) := (Blk.cell h.cells 3).trans rfl
  have hlk := look_run w h hs
  have H := Lib.hid h
  have HOK := Lib.hid hok
  have HC := Lib.hid hc
  have HU := Lib.hid hu
  have HR := Lib.hid hr
  have HSEP := Lib.hid hsep
  have HBS := Lib.hid hbs
  have HS := Lib.hid (show DiskTo w L db d w from ⟨L, nb, sb, wv, φ, fv, cv, h, Turned.refl _ _⟩)
  clear h hok hc hu hr hsep hbs
  cases hd : d.down with
  | true =>
    rw [hd] at c5
    have hr : d.append s bs = (d, eCrash) := by simp [DV.append, hd]
    rw [hr]
    obtain ⟨pv, hpv⟩ := ptrOf_shape φ (look d.now s)
    rw [hpv] at hlk
    go_enter Try.func18, Try.ntmps18
    go_wp2
    go_ret
    exact ⟨rfl, HS.out⟩
  | false =>
    rw [hd] at c5
    cases hl : look d.now s with
    | none =>
      rw [hl] at hlk
      simp only [ptrOf, Option.isSome_none] at hlk
      have hr : d.append s bs = (d, eUnknown) := by simp [DV.append, hd, hl]
      rw [hr]
      go_enter Try.func18, Try.ntmps18
      go_wp2
      go_ret
      exact ⟨rfl, HS.out⟩
    | some i =>
      have hi := look_lt H.out.hnow hl
      obtain ⟨fb, hfb⟩ : ∃ fb, φ[i]? = some fb := ⟨_, List.getElem?_eq_getElem hi⟩
      rw [hl] at hlk
      simp only [ptrOf, hfb, Option.isSome_some] at hlk
      obtain ⟨u, hu⟩ : ∃ u, u = d.used := ⟨_, rfl⟩
      obtain ⟨n, hn⟩ : ∃ n, n = bs.length := ⟨_, rfl⟩
      have hused : ∀ W : World, W.heap = w.heap → Calls Try.prog 13 #[.pointer (some ⟨db, 0, none⟩)] W fun e w' => e = .returned (.int .i64 u) ∧ Below w.heap.size W w' := by
        intro W hW
        rw [hu, ← hW]
        exact used_disk W L db nb sb wv φ fv cv d (H.out.keep (by rw [hW]; exact Nat.le_refl _) (fun k _ => by rw [hW])) HU.out
      have hu1 : (u : Int) ≤ 1099511627776 := by rw [hu]; have := HU.out; omega
      have hn1 : (n : Int) ≤ 1099511627776 := by rw [hn]; have := HBS.out; omega
      have hwr : IntKind.i64.wrap ((u : Int) + (n : Int)) = (u : Int) + (n : Int) := IntWalk.i64_in _ (by omega)
      have HUSED := Lib.hid hused
      have HUD := Lib.hid hu
      have HND := Lib.hid hn
      have HB := Lib.hid (And.intro hu1 hn1)
      clear hused hu1 hn1
      rw [← hn]
      clear hu hn
      by_cases hfull : d.room < (u : Int) + (n : Int)
      · have hr : d.append s bs = (d, eFull) := by simp [DV.append, hd, hl, ← HUD.out, ← HND.out, hfull]
        rw [hr]
        have hb1 : decide (d.room < (u : Int) + (n : Int)) = true := by simpa using hfull
        clear hr hl hfb hfull
        go_enter Try.func18, Try.ntmps18
        go_wp2_with fail
        go_region_held3 (fun w' => w'.cell? ⟨db, 3, none⟩ = some (.int .i64 d.room))
          (first | exact c3 | exact cell_keep (below_of_drew hb2) c3)
          (first | (go_at_call 13; refine (HUSED.out _ ?_).mono ?_; (exact rfl); rintro e w2 ⟨rfl, hb2⟩))
        all_goals go_wp2
        all_goals go_ret
        exact ⟨rfl, L, nb, sb, wv, φ, fv, cv, H.out.below (below_of_drew hb2), Turned.below (below_of_drew hb2)⟩
      · have hr : d.append s bs = (d.tick.file i (fun f => { f with b := f.b ++ bs }), if d.on then 0 else eCrash) := by simp [DV.append, hd, hl, ← HUD.out, ← HND.out, hfull]
        rw [hr]
        have hb1 : decide (d.room < (u : Int) + (n : Int)) = false := by simpa using hfull
        clear hr hl hfull
        obtain ⟨i0, hi0, hz0, hz1, hz2⟩ := info_parts info_u8
        clear hi0 hz0 hz1 hz2
        cases ho : d.on
        all_goals
          go_enter Try.func18, Try.ntmps18
          go_wp2_with fail
          go_region_held3 (fun w' => w'.cell? ⟨db, 3, none⟩ = some (.int .i64 d.room))
            (first | exact c3 | exact cell_keep (below_of_drew hb2) c3)
            (first | (go_at_call 13; refine (HUSED.out _ ?_).mono ?_; (exact rfl); rintro e w2 ⟨rfl, hb2⟩))
          go_wp2_with fail
          have hD2 := H.out.below (below_of_drew hb2)
          have HB2 := Lib.hid (below_of_drew hb2)
          clear hb2
          refine (call_disk w2 L db nb sb wv φ fv cv d hD2 HOK.out HC.out).mono ?_
          rintro e w3 ⟨rfl, h3, ht3⟩
          rw [ho]
          clear hD2
          obtain ⟨f, ao, cp, hf, hfv, hF⟩ := h3.file_at hfb
          have b0 : w3.cell? ⟨fb, 0, none⟩ = some (.slice ao f.b.length cp) := (Blk.cell hF.cells 0).trans rfl
          have hlen : f.b.length + bs.length ≤ 140737488355328 := by
            have h1 := HOK.out.lens f (List.mem_of_getElem? hf)
            have h2 := HOK.out.room1
            have h3 := HBS.out
            omega
          have hR3 : Reads w3 w.heap.size 1 A n (bcells bs) := by
            rw [HND.out]
            refine HR.out.blockp fun hpos ad e hlt => ?_
            rw [ht3.block ad.block (Nat.lt_of_lt_of_le hlt HB2.out.size) (HSEP.out hpos ad e), HB2.out.block ad.block hlt]
          have hfr : ∀ w4 : World, w3.grownBy w4 (Value.slice ao f.b.length cp).ownBlock → w4.cell? ⟨fb, 0, none⟩ = some (.slice ao f.b.length cp) ∧ w4.frozen? ⟨fb, 0, none⟩ = false := fun w4 hg => by
            have hfl : fb < w3.heap.size := h3.dom fb (by rw [hF.lab]; simp)
            have hB4 : Blk w4 fb 64 #[.slice ao f.b.length cp, .int .i64 f.safe] := (hg.block fb hfl (fun e => by have := hF.row fb e.symm; rw [hF.lab] at this; cases this)).trans hF.cells
            exact ⟨(Blk.cell hB4 0).trans rfl, Blk.frozen hB4 0⟩
          have happ : ∀ {ops : Array Oper} {rest : List Oper} {o : Oper} {a : Act} {Q : Exit → Act → World → Prop} (hgd : o.guard = none) (x y : Operand)
              (ho : o.op = .call { callee := .builtin .append, args := #[x, y], argTypes := #[32, 32] }) (hx : a.eval x = .slice ao f.b.length cp) (hy : a.eval y = .slice A n cc)
              (hK : ∀ ao' n' c2 w', BytesAt w' (.slice ao' n' c2) (f.b ++ bs) → w3.grownBy w' (Value.slice ao f.b.length cp).ownBlock →
                ((Value.slice ao' n' c2).ownBlock = (Value.slice ao f.b.length cp).ownBlock ∨ (Value.slice ao' n' c2).ownBlock = some w3.heap.size) → wpList Try.prog ops Q rest (a.put o.dst (.slice ao' n' c2)) w'),
              wpList Try.prog ops Q (o :: rest) a w3 := fun hgd x y ho hx hy hK =>
            wpList_append_bytes w3 hgd x y ho ao cp f.b hx hF.bytes _ A cc bs (HND.out ▸ hy) (HND.out ▸ hR3) hlen (fun ao' c2 w' h1 h2 h3 => hK ao' _ c2 w' h1 h2 h3)
          have HAPP := @Lib.hid _ @happ
          have HFR := Lib.hid hfr
          have H3 := Lib.hid h3
          have HF := Lib.hid hF
          have HT3 := Lib.hid ht3
          have HF2 := Lib.hid hf
          clear happ hfr hlen hR3 h3 hF ht3 hwr hb1 hf hfv c0 c3 c5 hlk
          go_wp2_with (at_builtin; refine HAPP.out rfl _ _ rfl rfl rfl ?_; intro ao' n' c2 w4 hby hgw hat; obtain ⟨d1, g1⟩ := HFR.out w4 hgw; have HBY := Lib.hid hby; have HGW := Lib.hid hgw; have HAT := Lib.hid hat; clear hby hgw hat b0)
          go_ret
          have hfin := H3.out.rebyte hfb HF2.out HF.out (fun f => { f with b := f.b ++ bs }) HBY.out HGW.out HAT.out rfl
          exact ⟨rfl, _, nb, sb, wv, φ, _, cv, hfin.1, ((Turned.below HB2.out).trans HT3.out).trans hfin.2⟩
end Go.Proofs.Ytombehaaaojhdaa
