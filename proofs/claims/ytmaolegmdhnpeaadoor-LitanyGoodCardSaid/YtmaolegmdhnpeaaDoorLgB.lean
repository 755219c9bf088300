/- LitanyGood: the trees of the law's runs, as the kernel reduces them (printed by wip/tools/lgb.py). -/
import Derived.Test.YtmaolegmdhnpeaaDoorLgA
namespace Go.Proofs.YtmaolegmdhnpeaaDoor
open Go Go.Sx Go.Proofs
set_option maxRecDepth 100000
def tr6 (key val tall a b c : Int) : T SV :=
  T.ite
        (match (!goodB 6 key val tall) == false with
        | true => tall != 0
        | false => true)
        (T.ite
          (match
            (!goodB 6 key val tall ==
                  match decide (key ≥ 0) == true with
                  | true =>
                    match decide (key ≤ 255) == true with
                    | true =>
                      match decide (val ≥ 0) == true with
                      | true =>
                        match decide (val ≤ 1073741824) == true with
                        | true =>
                          match decide (tall ≥ 0) == true with
                          | true =>
                            match decide (tall ≤ 3) == false with
                            | true => false
                            | false => true
                          | false => false
                        | false => false
                      | false => false
                    | false => false
                  | false => false) ==
              false with
          | true =>
            match
              (match decide (key ≥ 0) == true with
                | true =>
                  match decide (key ≤ 255) == true with
                  | true =>
                    match decide (val ≥ 0) == true with
                    | true =>
                      match decide (val ≤ 1073741824) == true with
                      | true =>
                        match decide (tall ≥ 0) == true with
                        | true =>
                          match decide (tall ≤ 3) == false with
                          | true => false
                          | false => true
                        | false => false
                      | false => false
                    | false => false
                  | false => false
                | false => false) ==
                true with
            | true =>
              match (!false == (tall == 0)) == false with
              | true =>
                !match decide (key ≥ 0) == true with
                  | true =>
                    match decide (key ≤ 255) == true with
                    | true =>
                      match decide (val ≥ 0) == true with
                      | true =>
                        match decide (val ≤ 1073741824) == true with
                        | true =>
                          match decide (tall ≥ 0) == true with
                          | true =>
                            match decide (tall ≤ 3) == false with
                            | true => false
                            | false => true
                          | false => false
                        | false => false
                      | false => false
                    | false => false
                  | false => false
              | false => true
            | false =>
              !match decide (key ≥ 0) == true with
                | true =>
                  match decide (key ≤ 255) == true with
                  | true =>
                    match decide (val ≥ 0) == true with
                    | true =>
                      match decide (val ≤ 1073741824) == true with
                      | true =>
                        match decide (tall ≥ 0) == true with
                        | true =>
                          match decide (tall ≤ 3) == false with
                          | true => false
                          | false => true
                        | false => false
                      | false => false
                    | false => false
                  | false => false
                | false => false
          | false => true)
          (T.leaf
            (SV.v
              (V1.c
                (Cell.bt
                  (match
                    (goodB 6 key val tall ==
                        match decide (key ≥ 0) == true with
                        | true =>
                          match decide (key ≤ 255) == true with
                          | true =>
                            match decide (val ≥ 0) == true with
                            | true =>
                              match decide (val ≤ 1073741824) == true with
                              | true =>
                                match decide (tall ≥ 0) == true with
                                | true =>
                                  match decide (tall ≤ 3) == false with
                                  | true => false
                                  | false => true
                                | false => false
                              | false => false
                            | false => false
                          | false => false
                        | false => false) ==
                      true with
                  | true =>
                    match
                      (match decide (key ≥ 0) == true with
                        | true =>
                          match decide (key ≤ 255) == true with
                          | true =>
                            match decide (val ≥ 0) == true with
                            | true =>
                              match decide (val ≤ 1073741824) == true with
                              | true =>
                                match decide (tall ≥ 0) == true with
                                | true =>
                                  match decide (tall ≤ 3) == false with
                                  | true => false
                                  | false => true
                                | false => false
                              | false => false
                            | false => false
                          | false => false
                        | false => false) ==
                        true with
                    | true => false == (tall == 0)
                    | false => false == false
                  | false => false)))))
          (T.leaf (SV.v (V1.c (Cell.bl true)))))
        (T.ite
          (match
            (!goodB 6 key val tall ==
                  match decide (key ≥ 0) == true with
                  | true =>
                    match decide (key ≤ 255) == true with
                    | true =>
                      match decide (val ≥ 0) == true with
                      | true =>
                        match decide (val ≤ 1073741824) == true with
                        | true =>
                          match decide (tall ≥ 0) == true with
                          | true =>
                            match decide (tall ≤ 3) == false with
                            | true => false
                            | false => true
                          | false => false
                        | false => false
                      | false => false
                    | false => false
                  | false => false) ==
              false with
          | true =>
            match
              (match decide (key ≥ 0) == true with
                | true =>
                  match decide (key ≤ 255) == true with
                  | true =>
                    match decide (val ≥ 0) == true with
                    | true =>
                      match decide (val ≤ 1073741824) == true with
                      | true =>
                        match decide (tall ≥ 0) == true with
                        | true =>
                          match decide (tall ≤ 3) == false with
                          | true => false
                          | false => true
                        | false => false
                      | false => false
                    | false => false
                  | false => false
                | false => false) ==
                true with
            | true =>
              match (!true == (tall == 0)) == false with
              | true =>
                !match decide (key ≥ 0) == true with
                  | true =>
                    match decide (key ≤ 255) == true with
                    | true =>
                      match decide (val ≥ 0) == true with
                      | true =>
                        match decide (val ≤ 1073741824) == true with
                        | true =>
                          match decide (tall ≥ 0) == true with
                          | true =>
                            match decide (tall ≤ 3) == false with
                            | true => false
                            | false => true
                          | false => false
                        | false => false
                      | false => false
                    | false => false
                  | false => false
              | false => true
            | false => true
          | false => true)
          (T.leaf
            (SV.v
              (V1.c
                (Cell.bt
                  (match
                    (goodB 6 key val tall ==
                        match decide (key ≥ 0) == true with
                        | true =>
                          match decide (key ≤ 255) == true with
                          | true =>
                            match decide (val ≥ 0) == true with
                            | true =>
                              match decide (val ≤ 1073741824) == true with
                              | true =>
                                match decide (tall ≥ 0) == true with
                                | true =>
                                  match decide (tall ≤ 3) == false with
                                  | true => false
                                  | false => true
                                | false => false
                              | false => false
                            | false => false
                          | false => false
                        | false => false) ==
                      true with
                  | true =>
                    match
                      (match decide (key ≥ 0) == true with
                        | true =>
                          match decide (key ≤ 255) == true with
                          | true =>
                            match decide (val ≥ 0) == true with
                            | true =>
                              match decide (val ≤ 1073741824) == true with
                              | true =>
                                match decide (tall ≥ 0) == true with
                                | true =>
                                  match decide (tall ≤ 3) == false with
                                  | true => false
                                  | false => true
                                | false => false
                              | false => false
                            | false => false
                          | false => false
                        | false => false) ==
                        true with
                    | true => true == (tall == 0)
                    | false => true == false
                  | false => false)))))
          (T.leaf (SV.v (V1.c (Cell.bl true)))))
theorem run6 (ad : Addr) (key val tall a b c kk : Int) : (lv N0 tab 9 4 [.v (.agg [.il .i64 6, I key, I val, I tall]), .v (.agg [I a, I b, I c]), .v (.c (I kk))] [some (.cells [.ifc 94 (.op ad)] 44)]).map (fun r => r.1) = tr6 key val tall a b c := by kernel_rfl
theorem heap6 (ad : Addr) (key val tall a b c kk : Int) : ((lv N0 tab 9 4 [.v (.agg [.il .i64 6, I key, I val, I tall]), .v (.agg [I a, I b, I c]), .v (.c (I kk))] [some (.cells [.ifc 94 (.op ad)] 44)]).map (fun r => hget r.2 0)).leaves = List.replicate 4 (some (.cells [.ifc 94 (.op ad)] 44)) := by kernel_rfl
def tr7 (key val tall a b c : Int) : T SV :=
  T.ite
        (match (!goodB 7 key val tall) == false with
        | true => tall != 0
        | false => true)
        (T.ite
          (match
            (!goodB 7 key val tall ==
                  match decide (key ≥ 0) == true with
                  | true =>
                    match decide (key ≤ 255) == true with
                    | true =>
                      match (val == 0) == true with
                      | true => tall == 0
                      | false => false
                    | false => false
                  | false => false) ==
              false with
          | true =>
            match
              (match decide (key ≥ 0) == true with
                | true =>
                  match decide (key ≤ 255) == true with
                  | true =>
                    match (val == 0) == true with
                    | true => tall == 0
                    | false => false
                  | false => false
                | false => false) ==
                true with
            | true =>
              match (!false == (tall == 0)) == false with
              | true =>
                !match decide (key ≥ 0) == true with
                  | true =>
                    match decide (key ≤ 255) == true with
                    | true =>
                      match (val == 0) == true with
                      | true => tall == 0
                      | false => false
                    | false => false
                  | false => false
              | false => true
            | false =>
              !match decide (key ≥ 0) == true with
                | true =>
                  match decide (key ≤ 255) == true with
                  | true =>
                    match (val == 0) == true with
                    | true => tall == 0
                    | false => false
                  | false => false
                | false => false
          | false => true)
          (T.leaf
            (SV.v
              (V1.c
                (Cell.bt
                  (match
                    (goodB 7 key val tall ==
                        match decide (key ≥ 0) == true with
                        | true =>
                          match decide (key ≤ 255) == true with
                          | true =>
                            match (val == 0) == true with
                            | true => tall == 0
                            | false => false
                          | false => false
                        | false => false) ==
                      true with
                  | true =>
                    match
                      (match decide (key ≥ 0) == true with
                        | true =>
                          match decide (key ≤ 255) == true with
                          | true =>
                            match (val == 0) == true with
                            | true => tall == 0
                            | false => false
                          | false => false
                        | false => false) ==
                        true with
                    | true => false == (tall == 0)
                    | false => false == false
                  | false => false)))))
          (T.leaf (SV.v (V1.c (Cell.bt (a == a && (b == b && c == c)))))))
        (T.ite
          (match
            (!goodB 7 key val tall ==
                  match decide (key ≥ 0) == true with
                  | true =>
                    match decide (key ≤ 255) == true with
                    | true =>
                      match (val == 0) == true with
                      | true => tall == 0
                      | false => false
                    | false => false
                  | false => false) ==
              false with
          | true =>
            match
              (match decide (key ≥ 0) == true with
                | true =>
                  match decide (key ≤ 255) == true with
                  | true =>
                    match (val == 0) == true with
                    | true => tall == 0
                    | false => false
                  | false => false
                | false => false) ==
                true with
            | true =>
              match (!true == (tall == 0)) == false with
              | true =>
                !match decide (key ≥ 0) == true with
                  | true =>
                    match decide (key ≤ 255) == true with
                    | true =>
                      match (val == 0) == true with
                      | true => tall == 0
                      | false => false
                    | false => false
                  | false => false
              | false => true
            | false => true
          | false => true)
          (T.leaf
            (SV.v
              (V1.c
                (Cell.bt
                  (match
                    (goodB 7 key val tall ==
                        match decide (key ≥ 0) == true with
                        | true =>
                          match decide (key ≤ 255) == true with
                          | true =>
                            match (val == 0) == true with
                            | true => tall == 0
                            | false => false
                          | false => false
                        | false => false) ==
                      true with
                  | true =>
                    match
                      (match decide (key ≥ 0) == true with
                        | true =>
                          match decide (key ≤ 255) == true with
                          | true =>
                            match (val == 0) == true with
                            | true => tall == 0
                            | false => false
                          | false => false
                        | false => false) ==
                        true with
                    | true => true == (tall == 0)
                    | false => true == false
                  | false => false)))))
          (T.leaf (SV.v (V1.c (Cell.bt (a == a && (b == b && c == c)))))))
theorem run7 (ad : Addr) (key val tall a b c kk : Int) : (lv N0 tab 9 4 [.v (.agg [.il .i64 7, I key, I val, I tall]), .v (.agg [I a, I b, I c]), .v (.c (I kk))] [some (.cells [.ifc 94 (.op ad)] 44)]).map (fun r => r.1) = tr7 key val tall a b c := by kernel_rfl
theorem heap7 (ad : Addr) (key val tall a b c kk : Int) : ((lv N0 tab 9 4 [.v (.agg [.il .i64 7, I key, I val, I tall]), .v (.agg [I a, I b, I c]), .v (.c (I kk))] [some (.cells [.ifc 94 (.op ad)] 44)]).map (fun r => hget r.2 0)).leaves = List.replicate 4 (some (.cells [.ifc 94 (.op ad)] 44)) := by kernel_rfl
def tr8 (key val tall a b c : Int) : T SV :=
  T.ite
        (match (!goodB 8 key val tall) == false with
        | true => tall != 0
        | false => true)
        (T.ite
          (match
            (!goodB 8 key val tall ==
                  match decide (key ≥ 0) == true with
                  | true =>
                    match decide (key ≤ 255) == true with
                    | true =>
                      match (val == 0) == true with
                      | true => tall == 0
                      | false => false
                    | false => false
                  | false => false) ==
              false with
          | true =>
            match
              (match decide (key ≥ 0) == true with
                | true =>
                  match decide (key ≤ 255) == true with
                  | true =>
                    match (val == 0) == true with
                    | true => tall == 0
                    | false => false
                  | false => false
                | false => false) ==
                true with
            | true =>
              match (!false == (tall == 0)) == false with
              | true =>
                !match decide (key ≥ 0) == true with
                  | true =>
                    match decide (key ≤ 255) == true with
                    | true =>
                      match (val == 0) == true with
                      | true => tall == 0
                      | false => false
                    | false => false
                  | false => false
              | false => true
            | false =>
              !match decide (key ≥ 0) == true with
                | true =>
                  match decide (key ≤ 255) == true with
                  | true =>
                    match (val == 0) == true with
                    | true => tall == 0
                    | false => false
                  | false => false
                | false => false
          | false => true)
          (T.leaf
            (SV.v
              (V1.c
                (Cell.bt
                  (match
                    (goodB 8 key val tall ==
                        match decide (key ≥ 0) == true with
                        | true =>
                          match decide (key ≤ 255) == true with
                          | true =>
                            match (val == 0) == true with
                            | true => tall == 0
                            | false => false
                          | false => false
                        | false => false) ==
                      true with
                  | true =>
                    match
                      (match decide (key ≥ 0) == true with
                        | true =>
                          match decide (key ≤ 255) == true with
                          | true =>
                            match (val == 0) == true with
                            | true => tall == 0
                            | false => false
                          | false => false
                        | false => false) ==
                        true with
                    | true => false == (tall == 0)
                    | false => false == false
                  | false => false)))))
          (T.leaf (SV.v (V1.c (Cell.bt (a == a && (b == b && c == c)))))))
        (T.ite
          (match
            (!goodB 8 key val tall ==
                  match decide (key ≥ 0) == true with
                  | true =>
                    match decide (key ≤ 255) == true with
                    | true =>
                      match (val == 0) == true with
                      | true => tall == 0
                      | false => false
                    | false => false
                  | false => false) ==
              false with
          | true =>
            match
              (match decide (key ≥ 0) == true with
                | true =>
                  match decide (key ≤ 255) == true with
                  | true =>
                    match (val == 0) == true with
                    | true => tall == 0
                    | false => false
                  | false => false
                | false => false) ==
                true with
            | true =>
              match (!true == (tall == 0)) == false with
              | true =>
                !match decide (key ≥ 0) == true with
                  | true =>
                    match decide (key ≤ 255) == true with
                    | true =>
                      match (val == 0) == true with
                      | true => tall == 0
                      | false => false
                    | false => false
                  | false => false
              | false => true
            | false => true
          | false => true)
          (T.leaf
            (SV.v
              (V1.c
                (Cell.bt
                  (match
                    (goodB 8 key val tall ==
                        match decide (key ≥ 0) == true with
                        | true =>
                          match decide (key ≤ 255) == true with
                          | true =>
                            match (val == 0) == true with
                            | true => tall == 0
                            | false => false
                          | false => false
                        | false => false) ==
                      true with
                  | true =>
                    match
                      (match decide (key ≥ 0) == true with
                        | true =>
                          match decide (key ≤ 255) == true with
                          | true =>
                            match (val == 0) == true with
                            | true => tall == 0
                            | false => false
                          | false => false
                        | false => false) ==
                        true with
                    | true => true == (tall == 0)
                    | false => true == false
                  | false => false)))))
          (T.leaf (SV.v (V1.c (Cell.bt (a == a && (b == b && c == c)))))))
theorem run8 (ad : Addr) (key val tall a b c kk : Int) : (lv N0 tab 9 4 [.v (.agg [.il .i64 8, I key, I val, I tall]), .v (.agg [I a, I b, I c]), .v (.c (I kk))] [some (.cells [.ifc 94 (.op ad)] 44)]).map (fun r => r.1) = tr8 key val tall a b c := by kernel_rfl
theorem heap8 (ad : Addr) (key val tall a b c kk : Int) : ((lv N0 tab 9 4 [.v (.agg [.il .i64 8, I key, I val, I tall]), .v (.agg [I a, I b, I c]), .v (.c (I kk))] [some (.cells [.ifc 94 (.op ad)] 44)]).map (fun r => hget r.2 0)).leaves = List.replicate 4 (some (.cells [.ifc 94 (.op ad)] 44)) := by kernel_rfl
def trO (k key val tall a b c : Int) : T SV :=
  T.ite
        (match (!goodB k key val tall) == false with
        | true => tall != 0
        | false => true)
        (T.ite
          (match
            (!goodB k key val tall ==
                  match decide (key ≥ 0) == true with
                  | true =>
                    match decide (key ≤ 255) == true with
                    | true => false
                    | false => false
                  | false => false) ==
              false with
          | true =>
            match
              (match decide (key ≥ 0) == true with
                | true =>
                  match decide (key ≤ 255) == true with
                  | true => false
                  | false => false
                | false => false) ==
                true with
            | true =>
              match (!false == (tall == 0)) == false with
              | true =>
                !match decide (key ≥ 0) == true with
                  | true =>
                    match decide (key ≤ 255) == true with
                    | true => false
                    | false => false
                  | false => false
              | false => true
            | false =>
              !match decide (key ≥ 0) == true with
                | true =>
                  match decide (key ≤ 255) == true with
                  | true => false
                  | false => false
                | false => false
          | false => true)
          (T.leaf
            (SV.v
              (V1.c
                (Cell.bt
                  (match
                    (goodB k key val tall ==
                        match decide (key ≥ 0) == true with
                        | true =>
                          match decide (key ≤ 255) == true with
                          | true => false
                          | false => false
                        | false => false) ==
                      true with
                  | true =>
                    match
                      (match decide (key ≥ 0) == true with
                        | true =>
                          match decide (key ≤ 255) == true with
                          | true => false
                          | false => false
                        | false => false) ==
                        true with
                    | true => false == (tall == 0)
                    | false => false == false
                  | false => false)))))
          (T.leaf (SV.v (V1.c (Cell.bl false)))))
        (T.ite
          (match
            (!goodB k key val tall ==
                  match decide (key ≥ 0) == true with
                  | true =>
                    match decide (key ≤ 255) == true with
                    | true => false
                    | false => false
                  | false => false) ==
              false with
          | true =>
            match
              (match decide (key ≥ 0) == true with
                | true =>
                  match decide (key ≤ 255) == true with
                  | true => false
                  | false => false
                | false => false) ==
                true with
            | true =>
              match (!true == (tall == 0)) == false with
              | true =>
                !match decide (key ≥ 0) == true with
                  | true =>
                    match decide (key ≤ 255) == true with
                    | true => false
                    | false => false
                  | false => false
              | false => true
            | false => true
          | false => true)
          (T.leaf
            (SV.v
              (V1.c
                (Cell.bt
                  (match
                    (goodB k key val tall ==
                        match decide (key ≥ 0) == true with
                        | true =>
                          match decide (key ≤ 255) == true with
                          | true => false
                          | false => false
                        | false => false) ==
                      true with
                  | true =>
                    match
                      (match decide (key ≥ 0) == true with
                        | true =>
                          match decide (key ≤ 255) == true with
                          | true => false
                          | false => false
                        | false => false) ==
                        true with
                    | true => true == (tall == 0)
                    | false => true == false
                  | false => false)))))
          (T.leaf (SV.v (V1.c (Cell.bl false)))))
theorem runO (ad : Addr) (k key val tall a b c kk : Int) (h : ∀ c ∈ [(6 : Int), 7, 8], (k == c) = false) : (lv N0 tab 9 4 [.v (.agg [.iv .i64 k [6, 7, 8] h, I key, I val, I tall]), .v (.agg [I a, I b, I c]), .v (.c (I kk))] [some (.cells [.ifc 94 (.op ad)] 44)]).map (fun r => r.1) = trO k key val tall a b c := by kernel_rfl
theorem heapO (ad : Addr) (k key val tall a b c kk : Int) (h : ∀ c ∈ [(6 : Int), 7, 8], (k == c) = false) : ((lv N0 tab 9 4 [.v (.agg [.iv .i64 k [6, 7, 8] h, I key, I val, I tall]), .v (.agg [I a, I b, I c]), .v (.c (I kk))] [some (.cells [.ifc 94 (.op ad)] 44)]).map (fun r => hget r.2 0)).leaves = List.replicate 4 (some (.cells [.ifc 94 (.op ad)] 44)) := by kernel_rfl
end Go.Proofs.YtmaolegmdhnpeaaDoor
