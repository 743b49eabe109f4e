/- Functions of the program as functions of Lean, each with its contract (printed by a program). -/
import Derived.Test.YtgpojnenbmlcbaaDoorGC
namespace Go.Proofs.YtgpojnenbmlcbaaDoor
open Go Go.Abs
set_option maxRecDepth 10000
set_option maxHeartbeats 400000
abbrev lAuthorityRenames_E (y : Bool) : CV := B y
def lAuthorityRenames_F (l : List Aut) (id : Int) (day : Int) (text : Str) (other : Int) (at_ : Int) : Option (Bool) := Option.bind (lawake_S) fun y1 => bif (!y1) then (Option.bind (lawake_S) fun y4 => some (y4)) else (Option.bind (rFew_S l) fun y6 => bif (!y6) then (Option.bind (lawake_S) fun y9 => some (y9)) else (bif decide ((text.length : Int) > 100) then (Option.bind (lawake_S) fun y12 => some (y12)) else (Option.bind (rCopy_S l) fun y14 => Option.bind (pRename_S y14 id day text) fun y16 => bif (y16.2 != 0) then some ((((y16.1.map cAut).length : Int) == 0)) else (Option.bind (rCopy_S y16.1) fun y19 => Option.bind (pCheck_S y19) fun y21 => bif (y21.2 != 0) then some (false) else (bif (((y16.1.map cAut).length : Int) != ((l.map cAut).length : Int)) then some (false) else (Option.bind (rCopy_S l) fun y25 => Option.bind (pName_S y25 other at_) fun y27 => Option.bind (rCopy_S y16.1) fun y29 => Option.bind (pName_S y29 other at_) fun y31 => bif (other != id) then (bif (y27.1 == y31.1) then some ((y27.2 == y31.2)) else some (false)) else (bif decide (at_ < day) then (bif (y27.1 == y31.1) then some ((y27.2 == y31.2)) else some (false)) else (Option.bind (pFind_S y16.1 id) fun y37 => bif (!y37.2) then some (false) else (bif decide (at_ > 1048575) then some ((y31.2 == 2)) else (bif decide (at_ ≥ y37.1.In.Until) then some ((y31.2 == 11)) else (bif (y31.2 == 0) then some ((y31.1 == text)) else some (false))))))))))))
set_option linter.unusedVariables false in
theorem lAuthorityRenames_Fh {l : List Aut} {id : Int} {day : Int} {text : Str} {other : Int} {at_ : Int} {r : Bool} (hF : lAuthorityRenames_F l id day text other at_ = some r)   : Holds Tryd.prog Gw 6 [.sl 6 (l.map cAut), I id, I day, S text, I other, I at_] (lAuthorityRenames_E r) := by
  refine holds_of_wq Gs tabOk mixed Tryd.func6 (by decide) rfl (Nat.le_of_ble_eq_true rfl) ?_
  refine obind hF fun y1 h2 hF => ?_
  refine Or.inl ⟨_, lawake_h h2, rfl, ?_⟩
  refine And.intro (fun h3 => ?_) (fun h3 => ?_)
  · have hF := cpos h3 hF
    refine obind hF fun y4 h5 hF => ?_
    refine Or.inl ⟨_, lawake_h h5, rfl, ?_⟩
    exact Or.inl ⟨rfl, congrArg (Option.map lAuthorityRenames_E) hF⟩
  · have hF := cneg h3 hF
    refine obind hF fun y6 h7 hF => ?_
    refine Or.inl ⟨_, rFew_h h7, rfl, ?_⟩
    refine And.intro (fun h8 => ?_) (fun h8 => ?_)
    · have hF := cpos h8 hF
      refine obind hF fun y9 h10 hF => ?_
      refine Or.inl ⟨_, lawake_h h10, rfl, ?_⟩
      exact Or.inl ⟨rfl, congrArg (Option.map lAuthorityRenames_E) hF⟩
    · have hF := cneg h8 hF
      refine And.intro (fun h11 => ?_) (fun h11 => ?_)
      · have hF := cpos h11 hF
        refine obind hF fun y12 h13 hF => ?_
        refine Or.inl ⟨_, lawake_h h13, rfl, ?_⟩
        exact Or.inl ⟨rfl, congrArg (Option.map lAuthorityRenames_E) hF⟩
      · have hF := cneg h11 hF
        refine obind hF fun y14 h15 hF => ?_
        refine Or.inl ⟨_, rCopy_h h15, rfl, ?_⟩
        refine obind hF fun y16 h17 hF => ?_
        refine Or.inl ⟨_, pRename_h h17, rfl, ?_⟩
        refine And.intro (fun h18 => ?_) (fun h18 => ?_)
        · have hF := cpos h18 hF
          exact Or.inl ⟨rfl, congrArg (Option.map lAuthorityRenames_E) hF⟩
        · have hF := cneg h18 hF
          refine obind hF fun y19 h20 hF => ?_
          refine Or.inl ⟨_, rCopy_h h20, rfl, ?_⟩
          refine obind hF fun y21 h22 hF => ?_
          refine Or.inl ⟨_, pCheck_h h22, rfl, ?_⟩
          refine And.intro (fun h23 => ?_) (fun h23 => ?_)
          · have hF := cpos h23 hF
            exact Or.inl ⟨rfl, congrArg (Option.map lAuthorityRenames_E) hF⟩
          · have hF := cneg h23 hF
            refine And.intro (fun h24 => ?_) (fun h24 => ?_)
            · have hF := cpos h24 hF
              exact Or.inl ⟨rfl, congrArg (Option.map lAuthorityRenames_E) hF⟩
            · have hF := cneg h24 hF
              refine obind hF fun y25 h26 hF => ?_
              refine Or.inl ⟨_, rCopy_h h26, rfl, ?_⟩
              refine obind hF fun y27 h28 hF => ?_
              refine Or.inl ⟨_, pName_h h28, rfl, ?_⟩
              refine obind hF fun y29 h30 hF => ?_
              refine Or.inl ⟨_, rCopy_h h30, rfl, ?_⟩
              refine obind hF fun y31 h32 hF => ?_
              refine Or.inl ⟨_, pName_h h32, rfl, ?_⟩
              refine And.intro (fun h33 => ?_) (fun h33 => ?_)
              · have hF := cpos h33 hF
                refine And.intro (fun h34 => ?_) (fun h34 => ?_)
                · have hF := cpos h34 hF
                  exact Or.inl ⟨rfl, congrArg (Option.map lAuthorityRenames_E) hF⟩
                · have hF := cneg h34 hF
                  exact Or.inl ⟨rfl, congrArg (Option.map lAuthorityRenames_E) hF⟩
              · have hF := cneg h33 hF
                refine And.intro (fun h35 => ?_) (fun h35 => ?_)
                · have hF := cpos h35 hF
                  refine And.intro (fun h36 => ?_) (fun h36 => ?_)
                  · have hF := cpos h36 hF
                    exact Or.inl ⟨rfl, congrArg (Option.map lAuthorityRenames_E) hF⟩
                  · have hF := cneg h36 hF
                    exact Or.inl ⟨rfl, congrArg (Option.map lAuthorityRenames_E) hF⟩
                · have hF := cneg h35 hF
                  refine obind hF fun y37 h38 hF => ?_
                  refine Or.inl ⟨_, pFind_h h38, rfl, ?_⟩
                  refine And.intro (fun h39 => ?_) (fun h39 => ?_)
                  · have hF := cpos h39 hF
                    exact Or.inl ⟨rfl, congrArg (Option.map lAuthorityRenames_E) hF⟩
                  · have hF := cneg h39 hF
                    refine And.intro (fun h40 => ?_) (fun h40 => ?_)
                    · have hF := cpos h40 hF
                      exact Or.inl ⟨rfl, congrArg (Option.map lAuthorityRenames_E) hF⟩
                    · have hF := cneg h40 hF
                      refine And.intro (fun h41 => ?_) (fun h41 => ?_)
                      · have hF := cpos h41 hF
                        exact Or.inl ⟨rfl, congrArg (Option.map lAuthorityRenames_E) hF⟩
                      · have hF := cneg h41 hF
                        refine And.intro (fun h42 => ?_) (fun h42 => ?_)
                        · have hF := cpos h42 hF
                          exact Or.inl ⟨rfl, congrArg (Option.map lAuthorityRenames_E) hF⟩
                        · have hF := cneg h42 hF
                          exact Or.inl ⟨rfl, congrArg (Option.map lAuthorityRenames_E) hF⟩
abbrev lAuthorityRenames_S (l : List Aut) (id : Int) (day : Int) (text : Str) (other : Int) (at_ : Int) : Option (Bool) := lAuthorityRenames_F l id day text other at_
theorem lAuthorityRenames_h {l : List Aut} {id : Int} {day : Int} {text : Str} {other : Int} {at_ : Int} {r : Bool} (h : lAuthorityRenames_S l id day text other at_ = some r) : Holds Tryd.prog Gw 6 [.sl 6 (l.map cAut), I id, I day, S text, I other, I at_] (lAuthorityRenames_E r) := lAuthorityRenames_Fh  h
abbrev lAuthorityEnds_E (y : Bool) : CV := B y
def lAuthorityEnds_F (l : List Aut) (id : Int) (day : Int) (other : Int) (at_ : Int) : Option (Bool) := Option.bind (lawake_S) fun y1 => bif (!y1) then (Option.bind (lawake_S) fun y4 => some (y4)) else (Option.bind (rFew_S l) fun y6 => bif (!y6) then (Option.bind (lawake_S) fun y9 => some (y9)) else (Option.bind (rCopy_S l) fun y11 => Option.bind (pEnd_S y11 id day) fun y13 => bif (y13.2 != 0) then some ((((y13.1.map cAut).length : Int) == 0)) else (Option.bind (rCopy_S y13.1) fun y16 => Option.bind (pCheck_S y16) fun y18 => bif (y18.2 != 0) then some (false) else (bif (((y13.1.map cAut).length : Int) != ((l.map cAut).length : Int)) then some (false) else (Option.bind (rCopy_S l) fun y22 => Option.bind (pName_S y22 other at_) fun y24 => Option.bind (rCopy_S y13.1) fun y26 => Option.bind (pName_S y26 other at_) fun y28 => bif (other != id) then (bif (y24.1 == y28.1) then some ((y24.2 == y28.2)) else some (false)) else (bif decide (at_ < day) then (bif (y24.1 == y28.1) then some ((y24.2 == y28.2)) else some (false)) else (bif decide (at_ > 1048575) then (bif (y28.2 == 2) then some (true) else some ((y28.2 == 11))) else some ((y28.2 == 11)))))))))
set_option linter.unusedVariables false in
theorem lAuthorityEnds_Fh {l : List Aut} {id : Int} {day : Int} {other : Int} {at_ : Int} {r : Bool} (hF : lAuthorityEnds_F l id day other at_ = some r)   : Holds Tryd.prog Gw 7 [.sl 6 (l.map cAut), I id, I day, I other, I at_] (lAuthorityEnds_E r) := by
  refine holds_of_wq Gs tabOk mixed Tryd.func7 (by decide) rfl (Nat.le_of_ble_eq_true rfl) ?_
  refine obind hF fun y1 h2 hF => ?_
  refine Or.inl ⟨_, lawake_h h2, rfl, ?_⟩
  refine And.intro (fun h3 => ?_) (fun h3 => ?_)
  · have hF := cpos h3 hF
    refine obind hF fun y4 h5 hF => ?_
    refine Or.inl ⟨_, lawake_h h5, rfl, ?_⟩
    exact Or.inl ⟨rfl, congrArg (Option.map lAuthorityEnds_E) hF⟩
  · have hF := cneg h3 hF
    refine obind hF fun y6 h7 hF => ?_
    refine Or.inl ⟨_, rFew_h h7, rfl, ?_⟩
    refine And.intro (fun h8 => ?_) (fun h8 => ?_)
    · have hF := cpos h8 hF
      refine obind hF fun y9 h10 hF => ?_
      refine Or.inl ⟨_, lawake_h h10, rfl, ?_⟩
      exact Or.inl ⟨rfl, congrArg (Option.map lAuthorityEnds_E) hF⟩
    · have hF := cneg h8 hF
      refine obind hF fun y11 h12 hF => ?_
      refine Or.inl ⟨_, rCopy_h h12, rfl, ?_⟩
      refine obind hF fun y13 h14 hF => ?_
      refine Or.inl ⟨_, pEnd_h h14, rfl, ?_⟩
      refine And.intro (fun h15 => ?_) (fun h15 => ?_)
      · have hF := cpos h15 hF
        exact Or.inl ⟨rfl, congrArg (Option.map lAuthorityEnds_E) hF⟩
      · have hF := cneg h15 hF
        refine obind hF fun y16 h17 hF => ?_
        refine Or.inl ⟨_, rCopy_h h17, rfl, ?_⟩
        refine obind hF fun y18 h19 hF => ?_
        refine Or.inl ⟨_, pCheck_h h19, rfl, ?_⟩
        refine And.intro (fun h20 => ?_) (fun h20 => ?_)
        · have hF := cpos h20 hF
          exact Or.inl ⟨rfl, congrArg (Option.map lAuthorityEnds_E) hF⟩
        · have hF := cneg h20 hF
          refine And.intro (fun h21 => ?_) (fun h21 => ?_)
          · have hF := cpos h21 hF
            exact Or.inl ⟨rfl, congrArg (Option.map lAuthorityEnds_E) hF⟩
          · have hF := cneg h21 hF
            refine obind hF fun y22 h23 hF => ?_
            refine Or.inl ⟨_, rCopy_h h23, rfl, ?_⟩
            refine obind hF fun y24 h25 hF => ?_
            refine Or.inl ⟨_, pName_h h25, rfl, ?_⟩
            refine obind hF fun y26 h27 hF => ?_
            refine Or.inl ⟨_, rCopy_h h27, rfl, ?_⟩
            refine obind hF fun y28 h29 hF => ?_
            refine Or.inl ⟨_, pName_h h29, rfl, ?_⟩
            refine And.intro (fun h30 => ?_) (fun h30 => ?_)
            · have hF := cpos h30 hF
              refine And.intro (fun h31 => ?_) (fun h31 => ?_)
              · have hF := cpos h31 hF
                exact Or.inl ⟨rfl, congrArg (Option.map lAuthorityEnds_E) hF⟩
              · have hF := cneg h31 hF
                exact Or.inl ⟨rfl, congrArg (Option.map lAuthorityEnds_E) hF⟩
            · have hF := cneg h30 hF
              refine And.intro (fun h32 => ?_) (fun h32 => ?_)
              · have hF := cpos h32 hF
                refine And.intro (fun h33 => ?_) (fun h33 => ?_)
                · have hF := cpos h33 hF
                  exact Or.inl ⟨rfl, congrArg (Option.map lAuthorityEnds_E) hF⟩
                · have hF := cneg h33 hF
                  exact Or.inl ⟨rfl, congrArg (Option.map lAuthorityEnds_E) hF⟩
              · have hF := cneg h32 hF
                refine And.intro (fun h34 => ?_) (fun h34 => ?_)
                · have hF := cpos h34 hF
                  refine And.intro (fun h35 => ?_) (fun h35 => ?_)
                  · have hF := cpos h35 hF
                    exact Or.inl ⟨rfl, congrArg (Option.map lAuthorityEnds_E) hF⟩
                  · have hF := cneg h35 hF
                    exact Or.inl ⟨rfl, congrArg (Option.map lAuthorityEnds_E) hF⟩
                · have hF := cneg h34 hF
                  exact Or.inl ⟨rfl, congrArg (Option.map lAuthorityEnds_E) hF⟩
abbrev lAuthorityEnds_S (l : List Aut) (id : Int) (day : Int) (other : Int) (at_ : Int) : Option (Bool) := lAuthorityEnds_F l id day other at_
theorem lAuthorityEnds_h {l : List Aut} {id : Int} {day : Int} {other : Int} {at_ : Int} {r : Bool} (h : lAuthorityEnds_S l id day other at_ = some r) : Holds Tryd.prog Gw 7 [.sl 6 (l.map cAut), I id, I day, I other, I at_] (lAuthorityEnds_E r) := lAuthorityEnds_Fh  h
end Go.Proofs.YtgpojnenbmlcbaaDoor
